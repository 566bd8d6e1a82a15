/- What the law's proof rests on, part 4: for all that is said in each line. No conditions. -/
import Derived.Test.YtmblehbjedpjoaaRows
import Derived.Test.YtmblehbjedpjoaaCaA
namespace Go.Proofs.Ytmblehbjedpjoaa
open Go Go.Eng
def e0 (x : AV × List Int) : List AV := [x.1]
/-- A list of lists in memory. -/
structure LL (A : AHeap) (v : AV) (ws : List (AV × List Int)) : Prop where
  ls : Ls 1 e0 A v ws
  inn : ∀ x ∈ ws, L1 A x.1 x.2
theorem LL.mono {A A' : AHeap} {v : AV} {ws : List (AV × List Int)} (h : LL A v ws) (hp : A <+: A') : LL A' v ws := ⟨h.ls.mono hp, fun x hx => (h.inn x hx).mono hp⟩
abbrev lists (ws : List (AV × List Int)) : List (List Int) := ws.map Prod.snd
theorem mem_lists {ws : List (AV × List Int)} {w : AV × List Int} (h : w ∈ ws) : w.2 ∈ lists ws := List.mem_map_of_mem h
theorem c_kw (n lo hi : Int) (A : AHeap) : ACalls Try.prog 57 [I n, I lo, I hi] A (B (decide (lo ≤ n ∧ n ≤ hi))) A := by
  refine acalls hmix Try.func57 (by kernel_rfl) t57 3 rfl (by decide) ?_
  by_cases h : lo ≤ n
  · dsimp only [m57]
    simp (maxSteps := 4000000) -implicitDefEqProofs -dsimp (disch := omega) only [↓AW_ops, ↓AW_seq, ↓AW_ret, ↓AOps_nil, ↓AOps_pu, ↓AOps_guard, on_some, guardB_tt, ↓then_normal, ↓Fin_ret, pval, rd_S, rd_C, put_S, resV, resL, eq_self, List.replicate_succ, List.replicate_zero, List.set_cons_zero, List.set_cons_succ, List.getElem?_cons_zero, List.getElem?_cons_succ, Option.getD_some, Nat.reduceSub, List.cons_append, List.nil_append, bin_leq, bin_geq, if_true, decide_true, true_and, h]
    exact gc_same rfl
  · dsimp only [m57]
    simp (maxSteps := 4000000) -implicitDefEqProofs -dsimp (disch := omega) only [↓AW_ops, ↓AW_seq, ↓AW_ret, ↓AOps_nil, ↓AOps_pu, ↓AOps_guard, on_some, guardB_ft, skipS_some, ↓then_normal, ↓Fin_ret, pval, rd_S, rd_C, put_S, resV, resL, List.replicate_succ, List.replicate_zero, List.set_cons_zero, List.set_cons_succ, List.getElem?_cons_zero, List.getElem?_cons_succ, Option.getD_some, Nat.reduceSub, List.cons_append, List.nil_append, bin_geq, if_false, Bool.false_eq_true, decide_false, h]
    exact gc_same rfl
theorem c_rw (n lo hi : Int) (A : AHeap) : ACalls Try.prog 62 [I n, I lo, I hi] A (B (decide (lo ≤ n ∧ n ≤ hi))) A := by
  refine acalls hmix Try.func62 (by kernel_rfl) t62 3 rfl (by decide) ?_
  by_cases h : lo ≤ n
  · dsimp only [m62]
    simp (maxSteps := 4000000) -implicitDefEqProofs -dsimp (disch := omega) only [↓AW_ops, ↓AW_seq, ↓AW_ret, ↓AOps_nil, ↓AOps_pu, ↓AOps_guard, on_some, guardB_tt, ↓then_normal, ↓Fin_ret, pval, rd_S, rd_C, put_S, resV, resL, eq_self, List.replicate_succ, List.replicate_zero, List.set_cons_zero, List.set_cons_succ, List.getElem?_cons_zero, List.getElem?_cons_succ, Option.getD_some, Nat.reduceSub, List.cons_append, List.nil_append, bin_leq, bin_geq, if_true, decide_true, true_and, h]
    exact gc_same rfl
  · dsimp only [m62]
    simp (maxSteps := 4000000) -implicitDefEqProofs -dsimp (disch := omega) only [↓AW_ops, ↓AW_seq, ↓AW_ret, ↓AOps_nil, ↓AOps_pu, ↓AOps_guard, on_some, guardB_ft, skipS_some, ↓then_normal, ↓Fin_ret, pval, rd_S, rd_C, put_S, resV, resL, List.replicate_succ, List.replicate_zero, List.set_cons_zero, List.set_cons_succ, List.getElem?_cons_zero, List.getElem?_cons_succ, Option.getD_some, Nat.reduceSub, List.cons_append, List.nil_append, bin_geq, if_false, Bool.false_eq_true, decide_false, h]
    exact gc_same rfl
theorem c_v1 (n : Int) (A : AHeap) : ACalls Try.prog 70 [I n] A (B (!vLn n)) A := by
  refine acalls hmix Try.func70 (by kernel_rfl) t70 1 rfl (by decide) ?_
  dsimp only [m70]
  simp (maxSteps := 4000000) -implicitDefEqProofs -dsimp (disch := omega) only [↓AW_ops, ↓AW_seq, ↓AOps_nil, ↓AOps_pu, ↓AOps_call, on_some, ↓then_normal, pval, rd_S, rd_C, put_S, List.replicate_succ, List.replicate_zero, List.set_cons_zero, List.set_cons_succ, List.getElem?_cons_zero, List.getElem?_cons_succ, Option.getD_some, map_c, map_n, Nat.reduceSub, List.cons_append, List.nil_append]
  refine CallK.of (c_kw _ _ _ _) ?_
  simp (maxSteps := 4000000) -implicitDefEqProofs -dsimp (disch := omega) only [↓AW_ret, ↓AOps_nil, ↓AOps_pu, on_some, extK_same, ↓then_normal, ↓Fin_ret, pval, rd_S, put_S, resV, resL, List.replicate_succ, List.replicate_zero, List.set_cons_zero, List.set_cons_succ, List.getElem?_cons_zero, List.getElem?_cons_succ, Option.getD_some, Nat.reduceSub, List.cons_append, List.nil_append]
  exact gc_same (by simp [vLn])
theorem c_v2 (n : Int) (A : AHeap) : ACalls Try.prog 71 [I n] A (B (!vVl n)) A := by
  refine acalls hmix Try.func71 (by kernel_rfl) t71 1 rfl (by decide) ?_
  dsimp only [m71]
  simp (maxSteps := 4000000) -implicitDefEqProofs -dsimp (disch := omega) only [↓AW_ops, ↓AW_seq, ↓AOps_nil, ↓AOps_pu, ↓AOps_call, on_some, ↓then_normal, pval, rd_S, rd_C, put_S, List.replicate_succ, List.replicate_zero, List.set_cons_zero, List.set_cons_succ, List.getElem?_cons_zero, List.getElem?_cons_succ, Option.getD_some, map_c, map_n, Nat.reduceSub, List.cons_append, List.nil_append]
  refine CallK.of (c_kw _ _ _ _) ?_
  simp (maxSteps := 4000000) -implicitDefEqProofs -dsimp (disch := omega) only [↓AW_ret, ↓AOps_nil, ↓AOps_pu, on_some, extK_same, ↓then_normal, ↓Fin_ret, pval, rd_S, put_S, resV, resL, List.replicate_succ, List.replicate_zero, List.set_cons_zero, List.set_cons_succ, List.getElem?_cons_zero, List.getElem?_cons_succ, Option.getD_some, Nat.reduceSub, List.cons_append, List.nil_append]
  exact gc_same (by simp [vVl])
theorem mxL_take {xs : List Int} {i : Nat} {z : Int} (hi : 1 ≤ i) (hz : xs[i]? = some z) : mxL (xs.take (i + 1)) = max (mxL (xs.take i)) z := by
  cases xs with
  | nil => simp at hz
  | cons x xs =>
    obtain ⟨j, rfl⟩ : ∃ j, i = j + 1 := ⟨i - 1, by omega⟩
    simp only [List.take_succ_cons, mxL]
    rw [List.getElem?_cons_succ] at hz
    rw [List.take_add_one, hz, Option.toList_some, List.foldl_append, List.foldl_cons, List.foldl_nil]
theorem c_Max {xs : List Int} {v : AV} {A : AHeap} (hx : L1 A v xs) (h0 : 1 ≤ xs.length) (hl : xs.length ≤ 1000000) : ACalls Try.prog 72 [v] A (I (mxL xs)) A := by
  refine acalls hmix Try.func72 (by kernel_rfl) t72 1 rfl (by decide) ?_
  obtain ⟨x, hx0⟩ : ∃ x, xs[0]? = some x := ⟨_, List.getElem?_eq_getElem (by omega)⟩
  have h0' : ¬ (xs.length : Int) < 1 := by omega
  have i0 := hx.idx (k := .i64) (i := 0) (by omega)
  have e0' : ((0 : Nat) : Int) = 0 := rfl
  have l0 := hx.ld0 hx0 1 false (by decide)
  rw [e0'] at i0
  rw [Nat.zero_mul, Nat.add_zero] at i0 l0
  dsimp only [m72]
  simp (maxSteps := 4000000) -implicitDefEqProofs -dsimp (disch := omega) only [↓AW_skip, ↓AW_ops, ↓AW_seq, ↓AW_cond, ↓AW_block, ↓AOps_nil, ↓AOps_pu, ↓AOps_ld, on_some, condB_f, ↓then_normal, pval, lval, rd_S, rd_C, put_S, ↓AW_toLoop, partA, eq_self, List.replicate_succ, List.replicate_zero, List.set_cons_zero, List.set_cons_succ, List.getElem?_cons_zero, List.getElem?_cons_succ, List.drop_zero, List.take_succ_cons, List.take_nil, Option.getD_some, List.length_cons, List.length_nil, Nat.reduceSub, Nat.reduceLeDiff, Nat.zero_add, List.cons_append, List.nil_append, bin_lss, if_true, if_false, Bool.false_eq_true, decide_false, Go.Eng.e1, hx.len, h0', i0, l0]
  have ht1 : mxL (xs.take 1) = x := by
    cases xs with
    | nil => simp at hx0
    | cons y ys => simp at hx0; subst hx0; rfl
  refine LoopK.by 25 (fun i : Nat => 1 ≤ i ∧ i ≤ xs.length) (fun i => [(0, v), (3, I (mxL (xs.take i))), (4, I i)]) (fun _ => A) (fun i => xs.length - i) 1 ⟨by omega, by omega⟩ rfl (by simp [Has, rd_s, ht1]) rfl ?_
  rintro i ⟨hi1, hi⟩
  by_cases hlt : i < xs.length
  · obtain ⟨z, hz⟩ : ∃ z, xs[i]? = some z := ⟨_, List.getElem?_eq_getElem hlt⟩
    have hlt' : (i : Int) < xs.length := by omega
    simp (maxSteps := 4000000) -implicitDefEqProofs -dsimp (disch := omega) only [↓AW_skip, ↓AW_ops, ↓AW_seq, ↓AW_cond, ↓AW_block, ↓AOps_nil, ↓AOps_pu, ↓AOps_ld, on_some, condB_t, ↓then_normal, ↓inBlock_normal, pval, lval, rd_S, rd_C, put_S, partA, eq_self, mk, List.foldl_cons, List.foldl_nil, List.replicate_succ, List.replicate_zero, List.set_cons_zero, List.set_cons_succ, List.getElem?_cons_zero, List.getElem?_cons_succ, List.drop_zero, List.take_succ_cons, List.take_nil, Option.getD_some, map_c, map_n, List.length_cons, List.length_nil, Nat.reduceAdd, Nat.reduceLeDiff, Nat.zero_add, bin_add, bin_lss, mm_max, w64, if_true, if_false, Bool.false_eq_true, decide_true, Go.Eng.e1, true_and, hlt', hx.len, hx.idx hlt, hx.ld0 hz 1 false (by decide)]
    exact ⟨i + 1, ⟨by omega, hlt⟩, by simp [Has, rd_s, mxL_take hi1 hz], by omega⟩
  · have hlt' : ¬ ((i : Int) < xs.length) := by omega
    simp (maxSteps := 4000000) -implicitDefEqProofs -dsimp (disch := omega) only [↓AW_ops, ↓AW_seq, ↓AW_cond, ↓AW_exit, ↓AW_ret, ↓AOps_nil, ↓AOps_pu, on_some, condB_f, ↓then_normal, ↓then_exit, ↓inBlock_exit, ↓Fin_ret, pval, rd_S, put_S, resV, resL, eq_self, mk, List.foldl_cons, List.foldl_nil, List.replicate_succ, List.replicate_zero, List.set_cons_zero, List.set_cons_succ, List.getElem?_cons_zero, List.getElem?_cons_succ, Option.getD_some, bin_lss, if_true, decide_false, hlt', hx.len]
    rw [List.take_of_length_le (by omega)]
    exact gc_same rfl
section
variable {L : List Int} {ws : List (AV × List Int)} {x y : AV} {A : AHeap}
theorem kE_large {V : List (List Int)} (h : ¬ (((1 : Int) ≤ L.length ∧ (L.length : Int) ≤ 6) ∧ ((1 : Int) ≤ V.length ∧ (V.length : Int) ≤ 5))) : kE L V = 3 := by
  unfold kE; rw [if_pos h]
theorem kE_bad {V : List (List Int)} (h : ((1 : Int) ≤ L.length ∧ (L.length : Int) ≤ 6) ∧ ((1 : Int) ≤ V.length ∧ (V.length : Int) ≤ 5)) {n : Int} (hn : n ∈ L) (hb : vLn n = false) : kE L V = 1 := by
  unfold kE
  rw [if_neg (by omega), if_neg]
  intro ha
  simp only [Bool.and_eq_true] at ha
  rw [List.all_eq_true.1 ha.1 n hn] at hb; cases hb
theorem kE_row {V : List (List Int)} (h : ((1 : Int) ≤ L.length ∧ (L.length : Int) ≤ 6) ∧ ((1 : Int) ≤ V.length ∧ (V.length : Int) ≤ 5)) {r : List Int} (hr : r ∈ V) (hb : rOK L r = false) : kE L V = 1 := by
  unfold kE
  rw [if_neg (by omega), if_neg]
  intro ha
  simp only [Bool.and_eq_true] at ha
  rw [List.all_eq_true.1 ha.2 r hr] at hb; cases hb
theorem kE_ok {V : List (List Int)} (h : ((1 : Int) ≤ L.length ∧ (L.length : Int) ≤ 6) ∧ ((1 : Int) ≤ V.length ∧ (V.length : Int) ≤ 5)) (h1 : L.all vLn = true) (h2 : V.all (rOK L) = true) : kE L V = 0 := by
  unfold kE
  rw [if_neg (by omega), if_pos (by simp [h1, h2])]
theorem rOK_false {r : List Int} (h : ¬ (r.length = L.length ∧ (∀ y ∈ r, 0 ≤ y ∧ y ≤ 20) ∧ ∃ y ∈ r, y ≠ 0)) : rOK L r = false := by
  rw [← rOK_iff] at h; simpa using h
theorem s26 (hL : L1 A x L) (hV : LL A y ws) (hs : L.length ≤ 1000000) (hl : ws.length ≤ 1000000) (hw : ∀ w ∈ ws, w.2.length ≤ 1000000) : ACalls Try.prog 26 [.agg [x, y]] A (I (kE L (lists ws))) A := by
  refine acalls hmix Try.func26 (by kernel_rfl) t26 1 rfl (by decide) ?_
  dsimp only [m26]
  simp (maxSteps := 4000000) -implicitDefEqProofs -dsimp (disch := omega) only [↓AW_ops, ↓AW_seq, ↓AOps_nil, ↓AOps_pu, ↓AOps_call, on_some, ↓then_normal, pval, rd_S, rd_C, put_S, chkd, isAdr, bgot, AV.cells?, partA, eq_self, List.replicate_succ, List.replicate_zero, List.set_cons_zero, List.set_cons_succ, List.getElem?_cons_zero, List.getElem?_cons_succ, List.drop_zero, List.take_zero, List.take_succ_cons, Option.getD_some, map_c, map_n, List.length_cons, List.length_nil, Nat.reduceAdd, Nat.reduceSub, Nat.reduceLeDiff, Nat.zero_add, List.cons_append, List.nil_append, if_true, if_false, Bool.false_eq_true, hL.len]
  refine CallK.of (c_kw _ _ _ _) ?_
  have hll : ((lists ws).length : Int) = ws.length := by simp
  by_cases h1 : (1 : Int) ≤ L.length ∧ (L.length : Int) ≤ 6
  · simp (maxSteps := 4000000) -implicitDefEqProofs -dsimp (disch := omega) only [↓AOps_pu, ↓AOps_call, ↓AOps_guard, on_some, extK_same, guardB_ff, pval, rd_S, rd_C, put_S, chkd, isAdr, bgot, AV.cells?, partA, eq_self, List.replicate_succ, List.replicate_zero, List.set_cons_zero, List.set_cons_succ, List.getElem?_cons_zero, List.getElem?_cons_succ, List.drop_zero, List.drop_succ_cons, List.take_succ_cons, List.take_nil, Option.getD_some, map_c, map_n, List.length_cons, List.length_nil, Nat.reduceAdd, Nat.reduceSub, Nat.reduceLeDiff, Nat.zero_add, List.cons_append, List.nil_append, if_true, if_false, Bool.false_eq_true, Bool.not_true, decide_true, and_true, h1, hV.ls.len]
    refine CallK.of (c_kw _ _ _ _) ?_
    by_cases h2 : (1 : Int) ≤ ws.length ∧ (ws.length : Int) ≤ 5
    · have h12 : ((1 : Int) ≤ L.length ∧ (L.length : Int) ≤ 6) ∧ ((1 : Int) ≤ (lists ws).length ∧ ((lists ws).length : Int) ≤ 5) := ⟨h1, by omega⟩
      simp (maxSteps := 4000000) -implicitDefEqProofs -dsimp (disch := omega) only [↓AW_skip, ↓AW_ops, ↓AW_seq, ↓AW_cond, ↓AOps_nil, ↓AOps_pu, ↓AOps_call, ↓AOps_guard, on_some, extK_same, guardB_ff, condB_f, ↓then_normal, pval, rd_S, rd_C, put_S, chkd, isAdr, bgot, AV.cells?, partA, eq_self, List.replicate_succ, List.replicate_zero, List.set_cons_zero, List.set_cons_succ, List.getElem?_cons_zero, List.getElem?_cons_succ, List.drop_zero, List.take_zero, List.take_succ_cons, Option.getD_some, map_c, map_n, List.length_cons, List.length_nil, Nat.reduceAdd, Nat.reduceSub, Nat.reduceLeDiff, Nat.zero_add, List.cons_append, List.nil_append, if_true, if_false, Bool.false_eq_true, Bool.not_true, decide_true, and_true, h2]
      refine CallK.of (c_ContainsFunc hL hs 70 [] (fun n => !vLn n) (fun n _ => c_v1 n A)) ?_
      by_cases h3 : L.any (fun n => !vLn n) = true
      · simp (maxSteps := 4000000) -implicitDefEqProofs -dsimp (disch := omega) only [↓AW_ops, ↓AW_seq, ↓AW_cond, ↓AW_ret, ↓AOps_nil, ↓AOps_pu, on_some, extK_same, condB_t, ↓then_normal, ↓then_ret, ↓Fin_ret, pval, rd_S, rd_C, put_S, resV, resL, List.replicate_succ, List.replicate_zero, List.set_cons_zero, List.set_cons_succ, List.getElem?_cons_zero, List.getElem?_cons_succ, Option.getD_some, Nat.reduceSub, List.cons_append, List.nil_append, h3]
        obtain ⟨n, hn, hb⟩ := List.any_eq_true.1 h3
        exact gc_same (by rw [kE_bad h12 hn (by simpa using hb)])
      · have h3' : L.any (fun n => !vLn n) = false := by simpa using h3
        have hLa : L.all vLn = true := by
          rw [List.all_eq_true]; intro n hn
          have := List.any_eq_false.1 h3' n hn
          simpa using this
        simp (maxSteps := 4000000) -implicitDefEqProofs -dsimp (disch := omega) only [↓AW_skip, ↓AW_ops, ↓AW_seq, ↓AW_cond, ↓AW_block, ↓AOps_nil, ↓AOps_pu, on_some, extK_same, condB_f, ↓then_normal, pval, rd_S, rd_C, put_S, ↓AW_toLoop, chkd, isAdr, bgot, AV.cells?, partA, eq_self, List.replicate_succ, List.replicate_zero, List.set_cons_zero, List.set_cons_succ, List.getElem?_cons_zero, List.getElem?_cons_succ, List.drop_zero, List.drop_succ_cons, List.take_succ_cons, List.take_nil, Option.getD_some, List.length_cons, List.length_nil, Nat.reduceAdd, Nat.reduceSub, Nat.reduceLeDiff, Nat.zero_add, List.cons_append, List.nil_append, if_true, if_false, Bool.false_eq_true, h3', hV.ls.len]
        refine LoopK.by 43 (fun i : Nat => i ≤ ws.length ∧ ∀ w ∈ ws.take i, rOK L w.2 = true) (fun i => [(1, .agg [x, y]), (21, y), (22, I ws.length), (23, I i)]) (fun _ => A) (fun i => ws.length - i) 0 ⟨by omega, by simp⟩ rfl (by simp [Has, rd_s]) rfl ?_
        rintro i ⟨hi, he⟩
        by_cases hlt : i < ws.length
        · obtain ⟨w, hz⟩ : ∃ z, ws[i]? = some z := ⟨_, List.getElem?_eq_getElem hlt⟩
          have hlt' : (i : Int) < ws.length := by omega
          have hm := List.mem_of_getElem? hz
          have hwl := hw w hm
          have hx := hV.inn w hm
          by_cases h4 : (w.2.length : Int) = L.length
          · simp (maxSteps := 4000000) -implicitDefEqProofs -dsimp (disch := omega) only [↓AW_skip, ↓AW_ops, ↓AW_seq, ↓AW_cond, ↓AW_block, ↓AOps_nil, ↓AOps_pu, ↓AOps_ld, ↓AOps_call, ↓AOps_guard, on_some, guardB_ff, condB_t, ↓then_normal, pval, lval, rd_S, rd_C, put_S, chkd, isAdr, bgot, AV.cells?, partA, eq_self, mk, List.foldl_cons, List.foldl_nil, List.replicate_succ, List.replicate_zero, List.set_cons_zero, List.set_cons_succ, List.getElem?_cons_zero, List.getElem?_cons_succ, List.drop_zero, List.take_zero, List.take_succ_cons, List.take_nil, Option.getD_some, map_c, map_n, List.length_cons, List.length_nil, Nat.reduceAdd, Nat.reduceLeDiff, Nat.zero_add, bin_neq, bin_lss, if_true, if_false, Bool.false_eq_true, decide_true, decide_false, not_true_eq_false, hlt', hV.ls.idx hlt, hV.ls.ld0 hz 1 false (by decide), e0, hx.len, hL.len, h4]
            refine CallK.of (c_ContainsFunc hx hwl 71 [] (fun n => !vVl n) (fun n _ => c_v2 n A)) ?_
            by_cases h5 : w.2.any (fun n => !vVl n) = true
            · simp (maxSteps := 4000000) -implicitDefEqProofs -dsimp (disch := omega) only [↓AW_ops, ↓AW_seq, ↓AW_cond, ↓AW_ret, ↓AOps_nil, ↓AOps_pu, ↓AOps_guard, on_some, extK_same, guardB_tf, skipS_some, condB_t, ↓then_normal, ↓then_ret, ↓inBlock_ret, ↓Fin_ret, pval, rd_S, rd_C, put_S, resV, resL, eq_self, mk, List.foldl_cons, List.foldl_nil, List.replicate_succ, List.replicate_zero, List.set_cons_zero, List.set_cons_succ, List.getElem?_cons_zero, List.getElem?_cons_succ, Option.getD_some, if_true, if_false, Bool.false_eq_true, h5]
              obtain ⟨n, hn, hb⟩ := List.any_eq_true.1 h5
              refine gc_same ?_
              rw [kE_row h12 (mem_lists hm) (rOK_false (fun hh => ?_))]
              have := hh.2.1 n hn
              simp [vVl] at hb
              omega
            · have h5' : w.2.any (fun n => !vVl n) = false := by simpa using h5
              have hv : ∀ n ∈ w.2, 0 ≤ n ∧ n ≤ 20 := by
                intro n hn
                have := List.any_eq_false.1 h5' n hn
                simpa [vVl] using this
              have hne : w.2 ≠ [] := by intro e; rw [e] at h4; simp at h4; omega
              have hz0 := mxL_zero hne (fun n hn => (hv n hn).1)
              simp (maxSteps := 4000000) -implicitDefEqProofs -dsimp (disch := omega) only [↓AOps_pu, ↓AOps_call, ↓AOps_guard, on_some, extK_same, guardB_ff, pval, rd_S, rd_C, put_S, mk, List.foldl_cons, List.foldl_nil, List.replicate_succ, List.replicate_zero, List.set_cons_zero, List.set_cons_succ, List.getElem?_cons_zero, List.getElem?_cons_succ, Option.getD_some, map_c, map_n, if_false, Bool.false_eq_true, h5']
              refine CallK.of (c_Max hx (by omega) hwl) ?_
              by_cases h6 : mxL w.2 = 0
              · simp (maxSteps := 4000000) -implicitDefEqProofs -dsimp (disch := omega) only [↓AW_ops, ↓AW_seq, ↓AW_cond, ↓AW_ret, ↓AOps_nil, ↓AOps_pu, ↓AOps_guard, on_some, extK_same, guardB_ff, condB_t, ↓then_normal, ↓then_ret, ↓inBlock_ret, ↓Fin_ret, pval, rd_S, rd_C, put_S, resV, resL, eq_self, mk, List.foldl_cons, List.foldl_nil, List.replicate_succ, List.replicate_zero, List.set_cons_zero, List.set_cons_succ, List.getElem?_cons_zero, List.getElem?_cons_succ, Option.getD_some, bin_eql, if_false, Bool.false_eq_true, decide_true, h6]
                refine gc_same ?_
                rw [kE_row h12 (mem_lists hm) (rOK_false (fun hh => hz0.1 h6 hh.2.2))]
              · simp (maxSteps := 4000000) -implicitDefEqProofs -dsimp (disch := omega) only [↓AW_skip, ↓AW_ops, ↓AW_cond, ↓AOps_nil, ↓AOps_pu, ↓AOps_guard, on_some, extK_same, guardB_ff, condB_f, ↓then_normal, ↓inBlock_normal, pval, rd_S, rd_C, put_S, eq_self, mk, List.foldl_cons, List.foldl_nil, List.replicate_succ, List.replicate_zero, List.set_cons_zero, List.set_cons_succ, List.getElem?_cons_zero, List.getElem?_cons_succ, Option.getD_some, List.length_cons, List.length_nil, Nat.reduceAdd, Nat.zero_add, bin_add, bin_eql, w64, if_false, Bool.false_eq_true, decide_false, true_and, h6]
                refine ⟨i + 1, ⟨hlt, fun u hu => ?_⟩, by simp [Has, rd_s], by omega⟩
                rcases (take_mem hz).1 hu with hu | rfl
                · exact he u hu
                · exact rOK_iff.2 ⟨by omega, hv, Classical.byContradiction fun hn => h6 (hz0.2 hn)⟩
          · simp (maxSteps := 4000000) -implicitDefEqProofs -dsimp (disch := omega) only [↓AW_skip, ↓AW_ops, ↓AW_seq, ↓AW_cond, ↓AW_block, ↓AW_ret, ↓AOps_nil, ↓AOps_pu, ↓AOps_ld, ↓AOps_guard, on_some, guardB_tf, skipS_some, condB_t, ↓then_normal, ↓then_ret, ↓inBlock_ret, ↓Fin_ret, pval, lval, rd_S, rd_C, put_S, resV, resL, chkd, isAdr, bgot, AV.cells?, partA, eq_self, mk, List.foldl_cons, List.foldl_nil, List.replicate_succ, List.replicate_zero, List.set_cons_zero, List.set_cons_succ, List.getElem?_cons_zero, List.getElem?_cons_succ, List.drop_zero, List.take_zero, List.take_succ_cons, List.take_nil, Option.getD_some, List.length_cons, List.length_nil, Nat.reduceAdd, Nat.reduceLeDiff, Nat.zero_add, bin_neq, bin_lss, if_true, if_false, Bool.false_eq_true, decide_true, not_false_eq_true, hlt', hV.ls.idx hlt, hV.ls.ld0 hz 1 false (by decide), e0, hx.len, hL.len, h4]
            refine gc_same ?_
            rw [kE_row h12 (mem_lists hm) (rOK_false (fun hh => h4 (by omega)))]
        · have hlt' : ¬ ((i : Int) < ws.length) := by omega
          simp (maxSteps := 4000000) -implicitDefEqProofs -dsimp (disch := omega) only [↓AW_ops, ↓AW_seq, ↓AW_cond, ↓AW_exit, ↓AW_ret, ↓AOps_nil, ↓AOps_pu, on_some, condB_f, ↓then_normal, ↓then_exit, ↓inBlock_exit, ↓Fin_ret, pval, rd_S, rd_C, put_S, resV, resL, eq_self, mk, List.foldl_cons, List.foldl_nil, List.replicate_succ, List.replicate_zero, List.set_cons_zero, List.set_cons_succ, List.getElem?_cons_zero, List.getElem?_cons_succ, Option.getD_some, bin_lss, if_true, decide_false, hlt']
          rw [List.take_of_length_le (by omega)] at he
          refine gc_same ?_
          rw [kE_ok h12 hLa (List.all_eq_true.2 fun r hr => by obtain ⟨w, hw, rfl⟩ := List.mem_map.1 hr; exact he w hw)]
    · simp (maxSteps := 4000000) -implicitDefEqProofs -dsimp (disch := omega) only [↓AW_ops, ↓AW_seq, ↓AW_cond, ↓AW_ret, ↓AOps_nil, ↓AOps_pu, ↓AOps_guard, on_some, extK_same, guardB_ff, condB_t, ↓then_normal, ↓then_ret, ↓Fin_ret, pval, rd_S, rd_C, put_S, resV, resL, List.replicate_succ, List.replicate_zero, List.set_cons_zero, List.set_cons_succ, List.getElem?_cons_zero, List.getElem?_cons_succ, Option.getD_some, Nat.reduceSub, List.cons_append, List.nil_append, if_false, Bool.false_eq_true, Bool.not_false, decide_false, h2]
      exact gc_same (by rw [kE_large (by omega)])
  · simp (maxSteps := 4000000) -implicitDefEqProofs -dsimp (disch := omega) only [↓AW_ops, ↓AW_seq, ↓AW_cond, ↓AW_ret, ↓AOps_nil, ↓AOps_pu, ↓AOps_guard, on_some, extK_same, guardB_tf, skipS_some, condB_t, ↓then_normal, ↓then_ret, ↓Fin_ret, pval, rd_S, rd_C, put_S, resV, resL, eq_self, List.replicate_succ, List.replicate_zero, List.set_cons_zero, List.set_cons_succ, List.getElem?_cons_zero, List.getElem?_cons_succ, Option.getD_some, Nat.reduceSub, List.cons_append, List.nil_append, if_true, Bool.not_false, decide_false, h1]
    exact gc_same (by rw [kE_large (by omega)])
theorem sum_zero {l : List Int} (h : ∀ n ∈ l, 0 ≤ n) : l.sum = 0 ↔ ¬ ∃ n ∈ l, n ≠ 0 := by
  induction l with
  | nil => simp
  | cons a l ih =>
    have ih := ih (fun n hn => h n (by simp [hn]))
    have ha := h a (by simp)
    have hs : 0 ≤ l.sum := by
      have : ∀ l : List Int, (∀ y ∈ l, 0 ≤ y) → 0 ≤ l.sum := by
        intro l
        induction l with
        | nil => intro _; simp
        | cons a l ih =>
          intro h
          have h1 := ih (fun y hy => h y (by simp [hy]))
          have h2 := h a (by simp)
          simp only [List.sum_cons]
          omega
      exact this l (fun n hn => h n (by simp [hn]))
    rw [List.sum_cons]
    constructor
    · rintro h1 ⟨n, hn, h2⟩
      rcases List.mem_cons.1 hn with rfl | hn
      · omega
      · exact ih.1 (by omega) ⟨n, hn, h2⟩
    · intro h1
      have h2 : a = 0 := Classical.byContradiction fun hn => h1 ⟨a, by simp, hn⟩
      have h3 := ih.2 (fun ⟨n, hn, h4⟩ => h1 ⟨n, by simp [hn], h4⟩)
      omega
theorem s27 (hL : L1 A x L) (hV : LL A y ws) (hs : L.length ≤ 1000000) (hl : ws.length ≤ 1000000) (hw : ∀ w ∈ ws, w.2.length ≤ 1000000) : ACalls Try.prog 27 [.agg [x, y]] A (I (kE L (lists ws))) A := by
  refine acalls hmix Try.func27 (by kernel_rfl) t27 1 rfl (by decide) ?_
  dsimp only [m27]
  simp (maxSteps := 4000000) -implicitDefEqProofs -dsimp (disch := omega) only [↓AW_ops, ↓AW_seq, ↓AOps_nil, ↓AOps_pu, ↓AOps_call, on_some, ↓then_normal, pval, rd_S, rd_C, put_S, chkd, isAdr, bgot, AV.cells?, partA, eq_self, List.replicate_succ, List.replicate_zero, List.set_cons_zero, List.set_cons_succ, List.getElem?_cons_zero, List.getElem?_cons_succ, List.drop_zero, List.take_zero, List.take_succ_cons, Option.getD_some, map_c, map_n, List.length_cons, List.length_nil, Nat.reduceAdd, Nat.reduceSub, Nat.reduceLeDiff, Nat.zero_add, List.cons_append, List.nil_append, if_true, if_false, Bool.false_eq_true, hL.len]
  refine CallK.of (c_rw _ _ _ _) ?_
  have hll : ((lists ws).length : Int) = ws.length := by simp
  by_cases h1 : (1 : Int) ≤ L.length ∧ (L.length : Int) ≤ 6
  · simp (maxSteps := 4000000) -implicitDefEqProofs -dsimp (disch := omega) only [↓AOps_pu, ↓AOps_call, ↓AOps_guard, on_some, extK_same, guardB_ff, pval, rd_S, rd_C, put_S, chkd, isAdr, bgot, AV.cells?, partA, eq_self, List.replicate_succ, List.replicate_zero, List.set_cons_zero, List.set_cons_succ, List.getElem?_cons_zero, List.getElem?_cons_succ, List.drop_zero, List.drop_succ_cons, List.take_succ_cons, List.take_nil, Option.getD_some, map_c, map_n, List.length_cons, List.length_nil, Nat.reduceAdd, Nat.reduceSub, Nat.reduceLeDiff, Nat.zero_add, List.cons_append, List.nil_append, if_true, if_false, Bool.false_eq_true, Bool.not_true, decide_true, and_true, h1, hV.ls.len]
    refine CallK.of (c_rw _ _ _ _) ?_
    by_cases h2 : (1 : Int) ≤ ws.length ∧ (ws.length : Int) ≤ 5
    · have h12 : ((1 : Int) ≤ L.length ∧ (L.length : Int) ≤ 6) ∧ ((1 : Int) ≤ (lists ws).length ∧ ((lists ws).length : Int) ≤ 5) := ⟨h1, by omega⟩
      simp (maxSteps := 4000000) -implicitDefEqProofs -dsimp (disch := omega) only [↓AW_skip, ↓AW_ops, ↓AW_seq, ↓AW_cond, ↓AW_block, ↓AOps_nil, ↓AOps_pu, ↓AOps_guard, on_some, extK_same, guardB_ff, condB_f, ↓then_normal, pval, rd_S, rd_C, put_S, ↓AW_toLoop, List.replicate_succ, List.replicate_zero, List.set_cons_zero, List.set_cons_succ, List.getElem?_cons_zero, List.getElem?_cons_succ, Option.getD_some, Nat.reduceSub, List.cons_append, List.nil_append, if_false, Bool.false_eq_true, Bool.not_true, decide_true, and_true, h2]
      refine LoopK.by 79 (fun i : Nat => i ≤ L.length ∧ ∀ n ∈ L.take i, vLn n = true) (fun i => [(1, .agg [x, y]), (3, I i)]) (fun _ => A) (fun i => L.length - i) 0 ⟨by omega, by simp⟩ rfl (by simp [Has, rd_s]) rfl ?_
      rintro i ⟨hi, he⟩
      by_cases hlt : i < L.length
      · obtain ⟨n, hz⟩ : ∃ z, L[i]? = some z := ⟨_, List.getElem?_eq_getElem hlt⟩
        have hlt' : (i : Int) < L.length := by omega
        have hm := List.mem_of_getElem? hz
        simp (maxSteps := 4000000) -implicitDefEqProofs -dsimp (disch := omega) only [↓AW_skip, ↓AW_ops, ↓AW_seq, ↓AW_cond, ↓AW_block, ↓AOps_nil, ↓AOps_pu, ↓AOps_ld, ↓AOps_call, on_some, condB_t, ↓then_normal, pval, lval, rd_S, rd_C, put_S, chkd, isAdr, bgot, AV.cells?, partA, eq_self, mk, List.foldl_cons, List.foldl_nil, List.replicate_succ, List.replicate_zero, List.set_cons_zero, List.set_cons_succ, List.getElem?_cons_zero, List.getElem?_cons_succ, List.drop_zero, List.take_zero, List.take_succ_cons, List.take_nil, Option.getD_some, map_c, map_n, List.length_cons, List.length_nil, Nat.reduceAdd, Nat.reduceLeDiff, Nat.zero_add, bin_lss, if_true, if_false, Bool.false_eq_true, decide_true, Go.Eng.e1, hlt', hL.len, hL.idx hlt, hL.ld0 hz 1 false (by decide)]
        refine CallK.of (c_rw _ _ _ _) ?_
        by_cases h3 : (1 : Int) ≤ n ∧ n ≤ 20
        · simp (maxSteps := 4000000) -implicitDefEqProofs -dsimp (disch := omega) only [↓AW_skip, ↓AW_ops, ↓AW_cond, ↓AOps_nil, ↓AOps_pu, on_some, extK_same, condB_f, ↓then_normal, ↓inBlock_normal, pval, rd_S, rd_C, put_S, eq_self, mk, List.foldl_cons, List.foldl_nil, List.replicate_succ, List.replicate_zero, List.set_cons_zero, List.set_cons_succ, List.getElem?_cons_zero, List.getElem?_cons_succ, Option.getD_some, List.length_cons, List.length_nil, Nat.reduceAdd, Nat.zero_add, bin_add, w64, Bool.not_true, decide_true, true_and, and_true, h3]
          refine ⟨i + 1, ⟨hlt, fun u hu => ?_⟩, by simp [Has, rd_s], by omega⟩
          rcases (take_mem hz).1 hu with hu | rfl
          · exact he u hu
          · simpa [vLn] using h3
        · simp (maxSteps := 4000000) -implicitDefEqProofs -dsimp (disch := omega) only [↓AW_ops, ↓AW_seq, ↓AW_cond, ↓AW_ret, ↓AOps_nil, ↓AOps_pu, on_some, extK_same, condB_t, ↓then_normal, ↓then_ret, ↓inBlock_ret, ↓Fin_ret, pval, rd_S, rd_C, put_S, resV, resL, mk, List.foldl_cons, List.foldl_nil, List.replicate_succ, List.replicate_zero, List.set_cons_zero, List.set_cons_succ, List.getElem?_cons_zero, List.getElem?_cons_succ, Option.getD_some, Bool.not_false, decide_false, h3]
          exact gc_same (by rw [kE_bad h12 hm (by simp only [vLn, decide_eq_false_iff_not]; exact h3)])
      · have hlt' : ¬ ((i : Int) < L.length) := by omega
        rw [List.take_of_length_le (by omega)] at he
        simp (maxSteps := 4000000) -implicitDefEqProofs -dsimp (disch := omega) only [↓AW_ops, ↓AW_seq, ↓AW_cond, ↓AW_block, ↓AW_exit, ↓AOps_nil, ↓AOps_pu, on_some, condB_f, ↓then_normal, ↓then_exit, ↓inBlock_exit, pval, rd_S, rd_C, put_S, ↓AW_toLoop, chkd, isAdr, bgot, AV.cells?, partA, eq_self, mk, List.foldl_cons, List.foldl_nil, List.replicate_succ, List.replicate_zero, List.set_cons_zero, List.set_cons_succ, List.getElem?_cons_zero, List.getElem?_cons_succ, List.drop_zero, List.take_zero, List.take_succ_cons, Option.getD_some, List.length_cons, List.length_nil, Nat.reduceAdd, Nat.reduceLeDiff, Nat.zero_add, bin_lss, if_true, if_false, Bool.false_eq_true, decide_false, hlt', hL.len]
        refine LoopK.by 79 (fun i : Nat => i ≤ ws.length ∧ ∀ w ∈ ws.take i, rOK L w.2 = true) (fun i => [(1, .agg [x, y]), (4, I i)]) (fun _ => A) (fun i => ws.length - i) 0 ⟨by omega, by simp⟩ rfl (by simp [Has, rd_s]) rfl ?_
        rintro o ⟨ho, he2⟩
        by_cases hlt : o < ws.length
        · obtain ⟨w, hz⟩ : ∃ z, ws[o]? = some z := ⟨_, List.getElem?_eq_getElem hlt⟩
          have hlt' : (o : Int) < ws.length := by omega
          have hm := List.mem_of_getElem? hz
          have hwl := hw w hm
          have hx := hV.inn w hm
          by_cases h4 : (w.2.length : Int) = L.length
          · simp (maxSteps := 4000000) -implicitDefEqProofs -dsimp (disch := omega) only [↓AW_skip, ↓AW_ops, ↓AW_seq, ↓AW_cond, ↓AW_block, ↓AOps_nil, ↓AOps_pu, ↓AOps_ld, on_some, condB_t, condB_f, ↓then_normal, pval, lval, rd_S, rd_C, put_S, ↓AW_toLoop, chkd, isAdr, bgot, AV.cells?, partA, eq_self, mk, List.foldl_cons, List.foldl_nil, List.replicate_succ, List.replicate_zero, List.set_cons_zero, List.set_cons_succ, List.getElem?_cons_zero, List.getElem?_cons_succ, List.drop_zero, List.drop_succ_cons, List.take_zero, List.take_succ_cons, List.take_nil, Option.getD_some, List.length_cons, List.length_nil, Nat.reduceAdd, Nat.reduceLeDiff, Nat.zero_add, bin_neq, bin_lss, if_true, if_false, Bool.false_eq_true, decide_true, decide_false, not_true_eq_false, hlt', hV.ls.len, hV.ls.idx hlt, hV.ls.ld0 hz 1 false (by decide), e0, hx.len, hL.len, h4]
            refine LoopK.by 79 (fun k : Nat => k ≤ L.length ∧ ∀ n ∈ w.2.take k, 0 ≤ n ∧ n ≤ 20) (fun k => [(1, .agg [x, y]), (4, I o), (5, I (w.2.take k).sum), (6, I k)]) (fun _ => A) (fun k => L.length - k) 0 ⟨by omega, by simp⟩ rfl (by simp [Has, rd_s]) rfl ?_
            rintro k ⟨hk, hv⟩
            have hsb := sumB hv
            rw [List.length_take] at hsb
            by_cases hltk : k < L.length
            · have hltw : k < w.2.length := by omega
              obtain ⟨n, hn⟩ : ∃ n, w.2[k]? = some n := ⟨_, List.getElem?_eq_getElem hltw⟩
              have hltk' : (k : Int) < L.length := by omega
              simp (maxSteps := 4000000) -implicitDefEqProofs -dsimp (disch := omega) only [↓AW_skip, ↓AW_ops, ↓AW_seq, ↓AW_cond, ↓AW_block, ↓AOps_nil, ↓AOps_pu, ↓AOps_ld, ↓AOps_call, on_some, condB_t, ↓then_normal, pval, lval, rd_S, rd_C, put_S, chkd, isAdr, bgot, AV.cells?, partA, eq_self, mk, List.foldl_cons, List.foldl_nil, List.replicate_succ, List.replicate_zero, List.set_cons_zero, List.set_cons_succ, List.getElem?_cons_zero, List.getElem?_cons_succ, List.drop_zero, List.drop_succ_cons, List.take_zero, List.take_succ_cons, List.take_nil, Option.getD_some, map_c, map_n, List.length_cons, List.length_nil, Nat.reduceAdd, Nat.reduceLeDiff, Nat.zero_add, bin_lss, if_true, if_false, Bool.false_eq_true, decide_true, Go.Eng.e1, hltk', hL.len, hV.ls.idx hlt, hV.ls.ld0 hz 1 false (by decide), e0, hx.idx hltw, hx.ld0 hn 1 false (by decide)]
              refine CallK.of (c_rw _ _ _ _) ?_
              by_cases h5 : (0 : Int) ≤ n ∧ n ≤ 20
              · simp (maxSteps := 4000000) -implicitDefEqProofs -dsimp (disch := omega) only [↓AW_skip, ↓AW_ops, ↓AW_cond, ↓AOps_nil, ↓AOps_pu, ↓AOps_ld, on_some, extK_same, condB_f, ↓then_normal, ↓inBlock_normal, pval, lval, rd_S, rd_C, put_S, chkd, isAdr, bgot, AV.cells?, partA, eq_self, mk, List.foldl_cons, List.foldl_nil, List.replicate_succ, List.replicate_zero, List.set_cons_zero, List.set_cons_succ, List.getElem?_cons_zero, List.getElem?_cons_succ, List.drop_zero, List.drop_succ_cons, List.take_succ_cons, List.take_nil, Option.getD_some, List.length_cons, List.length_nil, Nat.reduceAdd, Nat.reduceLeDiff, Nat.zero_add, bin_add, w64, if_true, if_false, Bool.false_eq_true, Bool.not_true, decide_true, Go.Eng.e1, true_and, and_true, h5, hV.ls.idx hlt, hV.ls.ld0 hz 1 false (by decide), e0, hx.idx hltw, hx.ld0 hn 1 false (by decide)]
                refine ⟨k + 1, ⟨hltk, fun u hu => ?_⟩, by simp [Has, rd_s, take_sum_succ' hn], by omega⟩
                rcases (take_mem hn).1 hu with hu | rfl
                · exact hv u hu
                · exact h5
              · simp (maxSteps := 4000000) -implicitDefEqProofs -dsimp (disch := omega) only [↓AW_ops, ↓AW_seq, ↓AW_cond, ↓AW_ret, ↓AOps_nil, ↓AOps_pu, on_some, extK_same, condB_t, ↓then_normal, ↓then_ret, ↓inBlock_ret, ↓Fin_ret, pval, rd_S, rd_C, put_S, resV, resL, mk, List.foldl_cons, List.foldl_nil, List.replicate_succ, List.replicate_zero, List.set_cons_zero, List.set_cons_succ, List.getElem?_cons_zero, List.getElem?_cons_succ, Option.getD_some, Bool.not_false, decide_false, h5]
                exact gc_same (by rw [kE_row h12 (mem_lists hm) (rOK_false (fun hh => h5 (hh.2.1 n (List.mem_of_getElem? hn))))])
            · have hltk' : ¬ ((k : Int) < L.length) := by omega
              rw [List.take_of_length_le (by omega)] at hv hsb
              have hsz := sum_zero (fun n hn => (hv n hn).1)
              have htk : w.2.take k = w.2 := List.take_of_length_le (by omega)
              by_cases h6 : w.2.sum = 0
              · simp (maxSteps := 4000000) -implicitDefEqProofs -dsimp (disch := omega) only [↓AW_ops, ↓AW_seq, ↓AW_cond, ↓AW_exit, ↓AW_ret, ↓AOps_nil, ↓AOps_pu, on_some, condB_t, condB_f, ↓then_normal, ↓then_exit, ↓then_ret, ↓inBlock_exit, ↓inBlock_ret, ↓Fin_ret, pval, rd_S, rd_C, put_S, resV, resL, chkd, isAdr, bgot, AV.cells?, partA, eq_self, mk, List.foldl_cons, List.foldl_nil, List.replicate_succ, List.replicate_zero, List.set_cons_zero, List.set_cons_succ, List.getElem?_cons_zero, List.getElem?_cons_succ, List.drop_zero, List.take_zero, List.take_succ_cons, Option.getD_some, List.length_cons, List.length_nil, Nat.reduceAdd, Nat.reduceLeDiff, Nat.reduceEqDiff, Nat.zero_add, bin_add, bin_eql, bin_lss, w64, if_true, if_false, Bool.false_eq_true, decide_true, decide_false, true_and, hltk', hL.len, htk, h6]
                exact gc_same (by rw [kE_row h12 (mem_lists hm) (rOK_false (fun hh => hsz.1 h6 hh.2.2))])
              · simp (maxSteps := 4000000) -implicitDefEqProofs -dsimp (disch := omega) only [↓AW_skip, ↓AW_ops, ↓AW_seq, ↓AW_cond, ↓AW_exit, ↓AW_ret, ↓AOps_nil, ↓AOps_pu, on_some, condB_f, ↓then_normal, ↓then_exit, ↓inBlock_normal, ↓inBlock_exit, ↓Fin_ret, pval, rd_S, rd_C, put_S, resV, resL, chkd, isAdr, bgot, AV.cells?, partA, eq_self, mk, List.foldl_cons, List.foldl_nil, List.replicate_succ, List.replicate_zero, List.set_cons_zero, List.set_cons_succ, List.getElem?_cons_zero, List.getElem?_cons_succ, List.drop_zero, List.take_zero, List.take_succ_cons, Option.getD_some, List.length_cons, List.length_nil, Nat.reduceAdd, Nat.reduceLeDiff, Nat.reduceEqDiff, Nat.zero_add, bin_add, bin_eql, bin_lss, w64, if_true, if_false, Bool.false_eq_true, decide_false, true_and, hltk', hL.len, htk, h6]
                refine ⟨o + 1, ⟨hlt, fun u hu => ?_⟩, by simp [Has, rd_s], by omega⟩
                rcases (take_mem hz).1 hu with hu | rfl
                · exact he2 u hu
                · exact rOK_iff.2 ⟨by omega, hv, Classical.byContradiction fun hn => h6 (hsz.2 hn)⟩
          · simp (maxSteps := 4000000) -implicitDefEqProofs -dsimp (disch := omega) only [↓AW_skip, ↓AW_ops, ↓AW_seq, ↓AW_cond, ↓AW_block, ↓AW_ret, ↓AOps_nil, ↓AOps_pu, ↓AOps_ld, on_some, condB_t, ↓then_normal, ↓then_ret, ↓inBlock_ret, ↓Fin_ret, pval, lval, rd_S, rd_C, put_S, resV, resL, chkd, isAdr, bgot, AV.cells?, partA, eq_self, mk, List.foldl_cons, List.foldl_nil, List.replicate_succ, List.replicate_zero, List.set_cons_zero, List.set_cons_succ, List.getElem?_cons_zero, List.getElem?_cons_succ, List.drop_zero, List.drop_succ_cons, List.take_zero, List.take_succ_cons, List.take_nil, Option.getD_some, List.length_cons, List.length_nil, Nat.reduceAdd, Nat.reduceLeDiff, Nat.zero_add, bin_neq, bin_lss, if_true, if_false, Bool.false_eq_true, decide_true, not_false_eq_true, hlt', hV.ls.len, hV.ls.idx hlt, hV.ls.ld0 hz 1 false (by decide), e0, hx.len, hL.len, h4]
            refine gc_same ?_
            rw [kE_row h12 (mem_lists hm) (rOK_false (fun hh => h4 (by omega)))]
        · have hlt' : ¬ ((o : Int) < ws.length) := by omega
          simp (maxSteps := 4000000) -implicitDefEqProofs -dsimp (disch := omega) only [↓AW_ops, ↓AW_seq, ↓AW_cond, ↓AW_exit, ↓AW_ret, ↓AOps_nil, ↓AOps_pu, on_some, condB_f, ↓then_normal, ↓then_exit, ↓inBlock_exit, ↓Fin_ret, pval, rd_S, rd_C, put_S, resV, resL, chkd, isAdr, bgot, AV.cells?, partA, eq_self, mk, List.foldl_cons, List.foldl_nil, List.replicate_succ, List.replicate_zero, List.set_cons_zero, List.set_cons_succ, List.getElem?_cons_zero, List.getElem?_cons_succ, List.drop_zero, List.drop_succ_cons, List.take_succ_cons, List.take_nil, Option.getD_some, List.length_cons, List.length_nil, Nat.reduceAdd, Nat.reduceLeDiff, Nat.zero_add, bin_lss, if_true, if_false, Bool.false_eq_true, decide_false, hlt', hV.ls.len]
          rw [List.take_of_length_le (by omega)] at he2
          refine gc_same ?_
          rw [kE_ok h12 (List.all_eq_true.2 he) (List.all_eq_true.2 fun r hr => by obtain ⟨w, hw, rfl⟩ := List.mem_map.1 hr; exact he2 w hw)]
    · simp (maxSteps := 4000000) -implicitDefEqProofs -dsimp (disch := omega) only [↓AW_ops, ↓AW_seq, ↓AW_cond, ↓AW_ret, ↓AOps_nil, ↓AOps_pu, ↓AOps_guard, on_some, extK_same, guardB_ff, condB_t, ↓then_normal, ↓then_ret, ↓Fin_ret, pval, rd_S, rd_C, put_S, resV, resL, List.replicate_succ, List.replicate_zero, List.set_cons_zero, List.set_cons_succ, List.getElem?_cons_zero, List.getElem?_cons_succ, Option.getD_some, Nat.reduceSub, List.cons_append, List.nil_append, if_false, Bool.false_eq_true, Bool.not_false, decide_false, h2]
      exact gc_same (by rw [kE_large (by omega)])
  · simp (maxSteps := 4000000) -implicitDefEqProofs -dsimp (disch := omega) only [↓AW_ops, ↓AW_seq, ↓AW_cond, ↓AW_ret, ↓AOps_nil, ↓AOps_pu, ↓AOps_guard, on_some, extK_same, guardB_tf, skipS_some, condB_t, ↓then_normal, ↓then_ret, ↓Fin_ret, pval, rd_S, rd_C, put_S, resV, resL, eq_self, List.replicate_succ, List.replicate_zero, List.set_cons_zero, List.set_cons_succ, List.getElem?_cons_zero, List.getElem?_cons_succ, Option.getD_some, Nat.reduceSub, List.cons_append, List.nil_append, if_true, Bool.not_false, decide_false, h1]
    exact gc_same (by rw [kE_large (by omega)])
end
end Go.Proofs.Ytmblehbjedpjoaa

namespace Go.Proofs.Ytmblehbjedpjoaa
open Go Go.Eng
section
variable {L : List Int} {ws : List (AV × List Int)} {x y : AV} {A : AHeap}
theorem KG.take {V : List (List Int)} (h : KG L V) (i : Nat) : 0 ≤ (L.take i).sum ∧ (L.take i).sum ≤ 120 := by
  have := take_sumB (us := L) (fun n hn => by have := h.ls n hn; omega) i
  have := h.l6
  omega
theorem KG.sum {V : List (List Int)} (h : KG L V) : 1 ≤ L.sum ∧ L.sum ≤ 120 := by
  have h1 := h.take L.length
  rw [List.take_length] at h1
  refine ⟨?_, h1.2⟩
  have hl := h.l1
  have hls := h.ls
  cases L with
  | nil => simp at hl
  | cons a l =>
    have h2 := hls a (by simp)
    have h3 := sumB (l := l) (fun n hn => by have := hls n (by simp [hn]); omega)
    rw [List.sum_cons]
    omega
theorem c_end (hL : L1 A x L) (h : KG L (lists ws)) : ACalls Try.prog 77 [.agg [x, y]] A (I L.sum) A := by
  refine acalls hmix Try.func77 (by kernel_rfl) t77 1 rfl (by decide) ?_
  have h6 := h.l6
  dsimp only [m77]
  simp (maxSteps := 4000000) -implicitDefEqProofs -dsimp (disch := omega) only [↓AW_ops, ↓AW_seq, ↓AW_block, ↓AOps_nil, ↓AOps_pu, on_some, ↓then_normal, pval, rd_S, rd_C, put_S, ↓AW_toLoop, chkd, isAdr, bgot, AV.cells?, partA, eq_self, List.replicate_succ, List.replicate_zero, List.set_cons_zero, List.set_cons_succ, List.getElem?_cons_zero, List.getElem?_cons_succ, List.drop_zero, List.take_zero, List.take_succ_cons, Option.getD_some, List.length_cons, List.length_nil, Nat.reduceAdd, Nat.reduceSub, Nat.reduceLeDiff, Nat.zero_add, List.cons_append, List.nil_append, if_true, if_false, Bool.false_eq_true, hL.len]
  refine LoopK.by 18 (fun i : Nat => i ≤ L.length) (fun i => [(3, I (L.take i).sum), (7, x), (8, I L.length), (9, I i)]) (fun _ => A) (fun i => L.length - i) 0 (by omega) rfl (by simp [Has, rd_s]) rfl ?_
  intro i hi
  by_cases hlt : i < L.length
  · obtain ⟨n, hz⟩ : ∃ z, L[i]? = some z := ⟨_, List.getElem?_eq_getElem hlt⟩
    have hlt' : (i : Int) < L.length := by omega
    have hb := h.take i
    have hn := h.ls n (List.mem_of_getElem? hz)
    simp (maxSteps := 4000000) -implicitDefEqProofs -dsimp (disch := omega) only [↓AW_skip, ↓AW_ops, ↓AW_seq, ↓AW_cond, ↓AW_block, ↓AOps_nil, ↓AOps_pu, ↓AOps_ld, on_some, condB_t, ↓then_normal, ↓inBlock_normal, pval, lval, rd_S, rd_C, put_S, partA, eq_self, mk, List.foldl_cons, List.foldl_nil, List.replicate_succ, List.replicate_zero, List.set_cons_zero, List.set_cons_succ, List.getElem?_cons_zero, List.getElem?_cons_succ, List.drop_zero, List.take_succ_cons, List.take_nil, Option.getD_some, List.length_cons, List.length_nil, Nat.reduceAdd, Nat.reduceLeDiff, Nat.zero_add, bin_add, bin_lss, w64, if_true, if_false, Bool.false_eq_true, decide_true, Go.Eng.e1, true_and, hlt', hL.idx hlt, hL.ld0 hz 1 false (by decide)]
    exact ⟨i + 1, hlt, by simp [Has, rd_s, take_sum_succ' hz], by omega⟩
  · have hlt' : ¬ ((i : Int) < L.length) := by omega
    simp (maxSteps := 4000000) -implicitDefEqProofs -dsimp (disch := omega) only [↓AW_ops, ↓AW_seq, ↓AW_cond, ↓AW_exit, ↓AW_ret, ↓AOps_nil, ↓AOps_pu, on_some, condB_f, ↓then_normal, ↓then_exit, ↓inBlock_exit, ↓Fin_ret, pval, rd_S, put_S, resV, resL, eq_self, mk, List.foldl_cons, List.foldl_nil, List.replicate_succ, List.replicate_zero, List.set_cons_zero, List.set_cons_succ, List.getElem?_cons_zero, List.getElem?_cons_succ, Option.getD_some, bin_lss, if_true, decide_false, hlt']
    rw [List.take_of_length_le (by omega)]
    exact gc_same rfl
theorem c_units (hL : L1 A x L) (hV : LL A y ws) (h : KG L (lists ws)) {o : Nat} {w : AV × List Int} (ho : ws[o]? = some w) :
    ACalls Try.prog 68 [.agg [x, y], I o] A (outV 1 A (units (L.zip w.2)).length) (outH A ((units (L.zip w.2)).flatMap e1) (units (L.zip w.2)).length) := by
  refine acalls hmix Try.func68 (by kernel_rfl) t68 2 rfl (by decide) ?_
  have h6 := h.l6
  have hm := List.mem_of_getElem? ho
  have hmr := mem_lists hm
  have hol : o < ws.length := (List.getElem?_eq_some_iff.1 ho).1
  have hrl := h.rl _ hmr
  have hg := h.gd hmr
  dsimp only [m68]
  simp (maxSteps := 4000000) -implicitDefEqProofs -dsimp (disch := omega) only [↓AW_ops, ↓AW_seq, ↓AW_block, ↓AOps_nil, ↓AOps_pu, on_some, ↓then_normal, pval, rd_S, rd_C, put_S, ↓AW_toLoop, AV.cells?, List.replicate_succ, List.replicate_zero, List.set_cons_zero, List.set_cons_succ, List.getElem?_cons_zero, Option.getD_some, Nat.reduceSub, List.cons_append, List.nil_append]
  refine LoopK.by 36 (fun z : Nat × AV × AHeap => z.1 ≤ L.length ∧ AccL 1 e1 A z.2.2 z.2.1 (units ((L.zip w.2).take z.1))) (fun z => [(1, I o), (2, .agg [x, y]), (5, z.2.1), (6, I z.1)]) (fun z => z.2.2) (fun z => L.length - z.1) (0, .nilS, A) ⟨by omega, AccL.nil (List.prefix_refl _)⟩ rfl (by simp [Has, rd_s]) rfl ?_
  rintro ⟨i, u, A1⟩ ⟨hi, hu⟩
  simp only at hi hu
  have hL1 := hL.mono hu.pre
  by_cases hlt : i < L.length
  · obtain ⟨n, hz⟩ : ∃ z, L[i]? = some z := ⟨_, List.getElem?_eq_getElem hlt⟩
    have hlt' : (i : Int) < L.length := by omega
    have hlw : i < w.2.length := by omega
    obtain ⟨v, hv⟩ : ∃ v, w.2[i]? = some v := ⟨_, List.getElem?_eq_getElem hlw⟩
    have hn := h.ls n (List.mem_of_getElem? hz)
    have hzv := zip_at hz hv
    have hb := len_bound (good_take hg i)
    have hb' := len_units (good_take hg i).2
    simp (maxSteps := 4000000) -implicitDefEqProofs -dsimp (disch := omega) only [↓AW_skip, ↓AW_ops, ↓AW_seq, ↓AW_cond, ↓AW_block, ↓AOps_nil, ↓AOps_pu, on_some, condB_t, ↓then_normal, pval, rd_S, rd_C, put_S, ↓AW_toLoop, chkd, isAdr, bgot, AV.cells?, partA, eq_self, mk, List.foldl_cons, List.foldl_nil, List.replicate_succ, List.replicate_zero, List.set_cons_zero, List.set_cons_succ, List.getElem?_cons_zero, List.getElem?_cons_succ, List.drop_zero, List.take_zero, List.take_succ_cons, Option.getD_some, List.length_cons, List.length_nil, Nat.reduceAdd, Nat.reduceLeDiff, Nat.zero_add, bin_lss, if_true, if_false, Bool.false_eq_true, decide_true, hlt', hL1.len]
    refine LoopK.by 36 (fun z : Nat × AV × AHeap => (z.1 : Int) ≤ n ∧ AccL 1 e1 A z.2.2 z.2.1 (units ((L.zip w.2).take i) ++ List.replicate z.1 v)) (fun z => [(1, I o), (2, .agg [x, y]), (5, z.2.1), (6, I i), (7, I z.1)]) (fun z => z.2.2) (fun z => n.toNat - z.1) (0, u, A1) ⟨by simp; omega, by simpa using hu⟩ rfl (by simp [Has, rd_s]) rfl ?_
    rintro ⟨k, u2, A2⟩ ⟨hk, hu2⟩
    simp only at hk hu2
    have hL2 := hL.mono hu2.pre
    have hV2 := hV.mono hu2.pre
    have hx2 := hV2.inn w hm
    by_cases hkz : (k : Int) < n
    · obtain ⟨u3, A3, happ, hu3⟩ := hu2.push e1_len v (by simp [lim]; omega)
      simp only [e1] at happ
      simp (maxSteps := 4000000) -implicitDefEqProofs -dsimp (disch := omega) only [↓AW_skip, ↓AW_ops, ↓AW_seq, ↓AW_cond, ↓AW_block, ↓AOps_nil, ↓AOps_pu, ↓AOps_ld, ↓AOps_ha, on_some, extK_false, extK_app, condB_t, ↓then_normal, ↓inBlock_normal, pval, lval, hval, rd_S, rd_C, put_S, chkd, isAdr, bgot, AV.cells?, splice, partA, fillA, repl, eq_self, mk, List.foldl_cons, List.foldl_nil, List.replicate_succ, List.replicate_zero, List.set_cons_zero, List.set_cons_succ, List.getElem?_cons_zero, List.getElem?_cons_succ, List.drop_zero, List.drop_succ_cons, List.drop_nil, List.take_zero, List.take_succ_cons, List.take_nil, Option.getD_some, map_c, map_n, List.length_cons, List.length_nil, Nat.reduceAdd, Nat.reduceLeDiff, Nat.zero_add, List.nil_append, List.append_nil, bin_add, bin_lss, w64, if_true, if_false, Bool.false_eq_true, decide_true, Go.Eng.e1, true_and, and_true, hkz, hL2.idx hlt, hL2.ld0 hz 1 false (by decide), hV2.ls.idx hol, hV2.ls.ld0 ho 1 false (by decide), e0, hx2.idx hlw, hx2.ld0 hv 1 false (by decide), happ]
      exact ⟨(k + 1, u3, A3), ⟨by simp only; omega, by rw [List.replicate_succ', ← List.append_assoc]; exact hu3⟩, by simp [Has, rd_s], rfl, by simp only; omega⟩
    · simp (maxSteps := 4000000) -implicitDefEqProofs -dsimp (disch := omega) only [↓AW_ops, ↓AW_seq, ↓AW_cond, ↓AW_exit, ↓AW_ret, ↓AOps_nil, ↓AOps_pu, ↓AOps_ld, on_some, condB_f, ↓then_normal, ↓then_exit, ↓inBlock_normal, ↓inBlock_exit, ↓Fin_ret, pval, lval, rd_S, rd_C, put_S, resV, resL, chkd, isAdr, bgot, AV.cells?, partA, eq_self, mk, List.foldl_cons, List.foldl_nil, List.replicate_succ, List.replicate_zero, List.set_cons_zero, List.set_cons_succ, List.getElem?_cons_zero, List.getElem?_cons_succ, List.drop_zero, List.take_zero, List.take_succ_cons, List.take_nil, Option.getD_some, List.length_cons, List.length_nil, Nat.reduceAdd, Nat.reduceLeDiff, Nat.reduceEqDiff, Nat.zero_add, bin_add, bin_lss, w64, if_true, if_false, Bool.false_eq_true, decide_false, Go.Eng.e1, true_and, reduceCtorEq, hkz, hL2.idx hlt, hL2.ld0 hz 1 false (by decide)]
      have hkz' : k = n.toNat := by omega
      subst hkz'
      exact ⟨(i + 1, u2, A2), ⟨hlt, by rw [units_take hzv]; exact hu2⟩, by simp [Has, rd_s], rfl, by simp only; omega⟩
  · have hlt' : ¬ ((i : Int) < L.length) := by omega
    simp (maxSteps := 4000000) -implicitDefEqProofs -dsimp (disch := omega) only [↓AW_ops, ↓AW_seq, ↓AW_cond, ↓AW_exit, ↓AW_ret, ↓AOps_nil, ↓AOps_pu, on_some, condB_f, ↓then_normal, ↓then_exit, ↓inBlock_exit, ↓Fin_ret, pval, rd_S, put_S, resV, resL, chkd, isAdr, bgot, AV.cells?, partA, eq_self, mk, List.foldl_cons, List.foldl_nil, List.replicate_succ, List.replicate_zero, List.set_cons_zero, List.set_cons_succ, List.getElem?_cons_zero, List.getElem?_cons_succ, List.drop_zero, List.take_zero, List.take_succ_cons, Option.getD_some, List.length_cons, List.length_nil, Nat.reduceAdd, Nat.reduceLeDiff, Nat.zero_add, bin_lss, if_true, if_false, Bool.false_eq_true, decide_false, hlt', hL1.len]
    rw [List.take_of_length_le (by rw [h.zlen hmr]; omega)] at hu
    exact hu.gc flat_e1
/-- What the document's list of units is. -/
theorem units_ls (A : AHeap) (f : List (Int × Int)) : L1 (outH A ((units f).flatMap e1) (units f).length) (outV 1 A (units f).length) (units f) := Ls_out A e1_len (units f)
theorem first_row {ws : List (AV × List Int)} (h : KG L (lists ws)) : ∃ w, ws[0]? = some w := by
  have := h.v1
  have h2 : (lists ws).length = ws.length := by simp
  exact ⟨_, List.getElem?_eq_getElem (by omega)⟩
/-- A place of a field. -/
def isK (L : List Int) (r : Int × Int) : Prop := ((1 ≤ r.2 ∧ r.2 ≤ 1000000) ∧ Int.gcd r.1 r.2 = 1) ∧ (0 ≤ r.1 ∧ r.1 ≤ L.sum * r.2)
instance (r : Int × Int) : Decidable (isK L r) := by unfold isK; exact inferInstance
theorem c_isK (hL : L1 A x L) (h : KG L (lists ws)) (r : Int × Int) (hr : W r.1) : ACalls Try.prog 51 [.agg [x, y], .agg [I r.1, I r.2]] A (B (decide (isK L r))) A := by
  refine acalls hmix Try.func51 (by kernel_rfl) t51 2 rfl (by decide) ?_
  have hs := h.sum
  dsimp only [m51]
  simp (maxSteps := 4000000) -implicitDefEqProofs -dsimp (disch := omega) only [↓AW_ops, ↓AW_seq, ↓AOps_nil, ↓AOps_pu, ↓AOps_call, on_some, ↓then_normal, pval, rd_S, rd_C, put_S, chkd, bgot, AV.cells?, partA, eq_self, List.replicate_succ, List.replicate_zero, List.set_cons_zero, List.set_cons_succ, List.getElem?_cons_zero, List.getElem?_cons_succ, List.drop_zero, List.take_succ_cons, List.take_nil, Option.getD_some, map_c, map_n, List.length_cons, List.length_nil, Nat.reduceAdd, Nat.reduceSub, Nat.reduceLeDiff, Nat.reduceEqDiff, Nat.zero_add, List.cons_append, List.nil_append, if_true, if_false]
  refine CallK.of (s105 r 1000000 A hr (by omega)) ?_
  by_cases h1 : (1 ≤ r.2 ∧ r.2 ≤ 1000000) ∧ Int.gcd r.1 r.2 = 1
  · have hm := mul_bound (x := L.sum) (y := r.2) (X := 120) (Y := 1000000) (by omega) (by omega)
    simp (maxSteps := 4000000) -implicitDefEqProofs -dsimp (disch := omega) only [↓AOps_pu, ↓AOps_call, ↓AOps_guard, on_some, extK_same, guardB_tt, pval, rd_S, put_S, chkd, isAdr, bgot, AV.cells?, partA, eq_self, List.replicate_succ, List.replicate_zero, List.set_cons_zero, List.set_cons_succ, List.getElem?_cons_zero, List.getElem?_cons_succ, List.drop_zero, List.take_zero, List.take_succ_cons, List.take_nil, Option.getD_some, map_c, map_n, List.length_cons, List.length_nil, Nat.reduceAdd, Nat.reduceSub, Nat.reduceLeDiff, Nat.reduceEqDiff, Nat.zero_add, List.cons_append, List.nil_append, if_true, if_false, Bool.false_eq_true, decide_true, and_true, h1]
    refine CallK.of (c_end (y := y) hL h) ?_
    simp (maxSteps := 4000000) -implicitDefEqProofs -dsimp (disch := omega) only [↓AOps_pu, ↓AOps_call, ↓AOps_guard, on_some, extK_same, guardB_tt, pval, rd_S, rd_C, put_S, chkd, isAdr, bgot, AV.cells?, partA, eq_self, List.replicate_succ, List.replicate_zero, List.set_cons_zero, List.set_cons_succ, List.getElem?_cons_zero, List.getElem?_cons_succ, List.drop_zero, List.drop_succ_cons, List.take_succ_cons, List.take_nil, Option.getD_some, map_c, map_n, List.length_cons, List.length_nil, Nat.reduceAdd, Nat.reduceSub, Nat.reduceLeDiff, Nat.zero_add, List.cons_append, List.nil_append, bin_mul, w64, if_true, if_false, Bool.false_eq_true]
    refine CallK.of (c_kw _ _ _ _) ?_
    simp (maxSteps := 4000000) -implicitDefEqProofs -dsimp (disch := omega) only [↓AW_ret, ↓AOps_nil, ↓AOps_pu, on_some, extK_same, ↓then_normal, ↓Fin_ret, pval, rd_S, rd_C, put_S, resV, resL, eq_self, List.replicate_succ, List.replicate_zero, List.set_cons_zero, List.set_cons_succ, List.getElem?_cons_zero, List.getElem?_cons_succ, Option.getD_some, Nat.reduceSub, List.cons_append, List.nil_append, if_true]
    exact gc_same (by congr 1; simp [isK, h1])
  · simp (maxSteps := 4000000) -implicitDefEqProofs -dsimp (disch := omega) only [↓AW_ret, ↓AOps_nil, ↓AOps_pu, ↓AOps_guard, on_some, extK_same, guardB_ft, skipS_some, ↓then_normal, ↓Fin_ret, pval, rd_S, rd_C, put_S, resV, resL, List.replicate_succ, List.replicate_zero, List.set_cons_zero, List.set_cons_succ, List.getElem?_cons_zero, List.getElem?_cons_succ, Option.getD_some, Nat.reduceSub, List.cons_append, List.nil_append, if_false, Bool.false_eq_true, decide_false, h1]
    exact gc_same (by congr 1; simp [isK, h1])
theorem c_risK (hL : L1 A x L) (hV : LL A y ws) (h : KG L (lists ws)) (r : Int × Int) (hr : W r.1) : ACalls Try.prog 53 [.agg [x, y], .agg [I r.1, I r.2]] A (B (decide (isK L r))) A := by
  refine acalls hmix Try.func53 (by kernel_rfl) t53 2 rfl (by decide) ?_
  have hs := h.sum
  obtain ⟨w, ho⟩ := first_row h
  have hmr := mem_lists (List.mem_of_getElem? ho)
  have hg := h.gd hmr
  dsimp only [m53]
  simp (maxSteps := 4000000) -implicitDefEqProofs -dsimp (disch := omega) only [↓AW_ops, ↓AW_seq, ↓AOps_nil, ↓AOps_pu, ↓AOps_call, on_some, ↓then_normal, pval, rd_S, rd_C, put_S, chkd, bgot, AV.cells?, partA, eq_self, List.replicate_succ, List.replicate_zero, List.set_cons_zero, List.set_cons_succ, List.getElem?_cons_zero, List.getElem?_cons_succ, List.drop_zero, List.take_succ_cons, List.take_nil, Option.getD_some, map_c, map_n, List.length_cons, List.length_nil, Nat.reduceAdd, Nat.reduceSub, Nat.reduceLeDiff, Nat.reduceEqDiff, Nat.zero_add, List.cons_append, List.nil_append, if_true, if_false]
  refine CallK.of (s106 r 1000000 A hr (by omega)) ?_
  by_cases h1 : vI r 1000000
  · simp (maxSteps := 4000000) -implicitDefEqProofs -dsimp (disch := omega) only [↓AOps_pu, ↓AOps_call, ↓AOps_guard, on_some, extK_same, guardB_tt, pval, rd_S, rd_C, put_S, chkd, bgot, partA, eq_self, List.replicate_succ, List.replicate_zero, List.set_cons_zero, List.set_cons_succ, List.getElem?_cons_zero, List.getElem?_cons_succ, List.drop_zero, List.take_succ_cons, List.take_nil, Option.getD_some, map_c, map_n, List.length_cons, List.length_nil, Nat.reduceAdd, Nat.reduceSub, Nat.reduceLeDiff, Nat.reduceEqDiff, Nat.zero_add, List.cons_append, List.nil_append, if_true, if_false, decide_true, h1]
    have hc := c_units hL hV h ho
    rw [show ((0 : Nat) : Int) = 0 from rfl] at hc
    refine CallK.of hc ?_
    have hu := units_ls A (L.zip w.2)
    have hp := pre_out A ((units (L.zip w.2)).flatMap e1) (units (L.zip w.2)).length
    have hl := len_units hg.2
    rw [h.lenz hmr] at hl
    have hgc := vI_gcd h1
    simp (maxSteps := 4000000) -implicitDefEqProofs -dsimp (disch := omega) only [↓AOps_pu, ↓AOps_call, ↓AOps_guard, on_some, extK_false, guardB_tt, pval, rd_S, put_S, chkd, bgot, partA, eq_self, List.replicate_succ, List.replicate_zero, List.set_cons_zero, List.set_cons_succ, List.getElem?_cons_zero, List.getElem?_cons_succ, List.drop_zero, List.take_succ_cons, List.take_nil, Option.getD_some, map_c, map_n, List.length_cons, List.length_nil, Nat.reduceAdd, Nat.reduceSub, Nat.reduceLeDiff, Nat.reduceEqDiff, Nat.zero_add, List.cons_append, List.nil_append, if_true, if_false, decide_true, h1]
    refine CallK.of (s107 hu (by omega) r hr ⟨h1.1.1, by have := h1.1.2; omega⟩ hgc) ?_
    simp (maxSteps := 4000000) -implicitDefEqProofs -dsimp (disch := omega) only [↓AW_ret, ↓AOps_nil, ↓AOps_pu, on_some, extK_same, ↓then_normal, ↓Fin_ret, pval, rd_S, rd_C, put_S, resV, resL, eq_self, List.replicate_succ, List.replicate_zero, List.set_cons_zero, List.set_cons_succ, List.getElem?_cons_zero, List.getElem?_cons_succ, Option.getD_some, Nat.reduceSub, List.cons_append, List.nil_append, if_true, decide_true, h1]
    refine gc_val hp ?_
    rw [show decide (isK L r) = decide (0 ≤ r.1 ∧ r.1 ≤ (units (L.zip w.2)).length * r.2) by rw [hl]; simp [isK, h1.1, hgc]]
    rfl
  · simp (maxSteps := 4000000) -implicitDefEqProofs -dsimp (disch := omega) only [↓AW_ret, ↓AOps_nil, ↓AOps_pu, ↓AOps_guard, on_some, extK_same, guardB_ft, skipS_some, ↓then_normal, ↓Fin_ret, pval, rd_S, rd_C, put_S, resV, resL, List.replicate_succ, List.replicate_zero, List.set_cons_zero, List.set_cons_succ, List.getElem?_cons_zero, List.getElem?_cons_succ, Option.getD_some, Nat.reduceSub, List.cons_append, List.nil_append, if_false, Bool.false_eq_true, decide_false, h1]
    have hn : ¬ isK L r := by
      intro hk
      apply h1
      refine ⟨hk.1.1, ?_⟩
      split
      · rename_i he
        have := hk.2.1
        omega
      · exact hk.1.2
    exact gc_same (by rw [decide_eq_false hn])
/-- Lists that are not long. -/
structure Sz (L : List Int) (ws : List (AV × List Int)) : Prop where
  l : L.length ≤ 1000000
  v : ws.length ≤ 1000000
  w : ∀ w ∈ ws, w.2.length ≤ 1000000
/-- The first error of a field and an owner. -/
def oE (L : List Int) (V : List (List Int)) (o : Int) : Int := if kE L V = 0 then (if 0 ≤ o ∧ o ≤ (V.length : Int) - 1 then 0 else 4) else kE L V
theorem oE_0 {V : List (List Int)} {o : Int} (h : oE L V o = 0) : KG L V ∧ 0 ≤ o ∧ o ≤ (V.length : Int) - 1 := by
  unfold oE at h
  split at h
  · rename_i h0
    split at h
    · rename_i h1; exact ⟨KG.of h0, h1⟩
    · cases h
  · rename_i h0; exact absurd h h0
theorem oE_row {ws : List (AV × List Int)} {o : Int} (h : oE L (lists ws) o = 0) : KG L (lists ws) ∧ ∃ (k : Nat) (w : AV × List Int), o = k ∧ ws[k]? = some w := by
  obtain ⟨h1, h2, h3⟩ := oE_0 h
  have h4 : (lists ws).length = ws.length := by simp
  refine ⟨h1, o.toNat, _, by omega, List.getElem?_eq_getElem (by omega)⟩
theorem s56 (hL : L1 A x L) (hV : LL A y ws) (hs : Sz L ws) (o : Int) : ACalls Try.prog 56 [.agg [x, y], I o] A (I (oE L (lists ws) o)) A := by
  refine acalls hmix Try.func56 (by kernel_rfl) t56 2 rfl (by decide) ?_
  have hll : ((lists ws).length : Int) = ws.length := by simp
  have hv := hs.v
  dsimp only [m56]
  simp (maxSteps := 4000000) -implicitDefEqProofs -dsimp (disch := omega) only [↓AW_ops, ↓AW_seq, ↓AOps_nil, ↓AOps_pu, ↓AOps_call, on_some, ↓then_normal, pval, rd_S, rd_C, put_S, chkd, bgot, AV.cells?, partA, eq_self, List.replicate_succ, List.replicate_zero, List.set_cons_zero, List.set_cons_succ, List.getElem?_cons_zero, List.getElem?_cons_succ, List.drop_zero, List.take_succ_cons, List.take_nil, Option.getD_some, map_c, map_n, List.length_cons, List.length_nil, Nat.reduceAdd, Nat.reduceSub, Nat.reduceLeDiff, Nat.reduceEqDiff, Nat.zero_add, List.cons_append, List.nil_append, if_true, if_false]
  refine CallK.of (s26 hL hV hs.l hs.v hs.w) ?_
  by_cases h0 : kE L (lists ws) = 0
  · simp (maxSteps := 4000000) -implicitDefEqProofs -dsimp (disch := omega) only [↓AW_skip, ↓AW_ops, ↓AW_seq, ↓AW_cond, ↓AOps_nil, ↓AOps_pu, ↓AOps_call, on_some, extK_same, condB_f, ↓then_normal, pval, rd_S, rd_C, put_S, chkd, isAdr, bgot, AV.cells?, partA, eq_self, List.replicate_succ, List.replicate_zero, List.set_cons_zero, List.set_cons_succ, List.getElem?_cons_zero, List.getElem?_cons_succ, List.drop_zero, List.drop_succ_cons, List.take_succ_cons, List.take_nil, Option.getD_some, map_c, map_n, List.length_cons, List.length_nil, Nat.reduceAdd, Nat.reduceSub, Nat.reduceLeDiff, Nat.zero_add, List.cons_append, List.nil_append, bin_sub, bin_neq, w64, if_true, if_false, Bool.false_eq_true, decide_false, not_true_eq_false, h0, hV.ls.len]
    refine CallK.of (c_kw _ _ _ _) ?_
    by_cases h1 : 0 ≤ o ∧ o ≤ (ws.length : Int) - 1
    · simp (maxSteps := 4000000) -implicitDefEqProofs -dsimp (disch := omega) only [↓AW_skip, ↓AW_ops, ↓AW_seq, ↓AW_cond, ↓AW_ret, ↓AOps_nil, ↓AOps_pu, on_some, extK_same, condB_f, ↓then_normal, ↓Fin_ret, pval, rd_S, rd_C, put_S, resV, resL, List.replicate_succ, List.replicate_zero, List.set_cons_zero, List.set_cons_succ, List.getElem?_cons_zero, List.getElem?_cons_succ, Option.getD_some, Nat.reduceSub, List.cons_append, List.nil_append, Bool.not_true, decide_true, and_true, h1]
      exact gc_same (by rw [oE, if_pos h0, hll, if_pos h1])
    · simp (maxSteps := 4000000) -implicitDefEqProofs -dsimp (disch := omega) only [↓AW_ops, ↓AW_seq, ↓AW_cond, ↓AW_ret, ↓AOps_nil, ↓AOps_pu, on_some, extK_same, condB_t, ↓then_normal, ↓then_ret, ↓Fin_ret, pval, rd_S, rd_C, put_S, resV, resL, List.replicate_succ, List.replicate_zero, List.set_cons_zero, List.set_cons_succ, List.getElem?_cons_zero, List.getElem?_cons_succ, Option.getD_some, Nat.reduceSub, List.cons_append, List.nil_append, Bool.not_false, decide_false, h1]
      exact gc_same (by rw [oE, if_pos h0, hll, if_neg h1])
  · simp (maxSteps := 4000000) -implicitDefEqProofs -dsimp (disch := omega) only [↓AW_ops, ↓AW_seq, ↓AW_cond, ↓AW_ret, ↓AOps_nil, ↓AOps_pu, on_some, extK_same, condB_t, ↓then_normal, ↓then_ret, ↓Fin_ret, pval, rd_S, rd_C, put_S, resV, resL, List.replicate_succ, List.replicate_zero, List.set_cons_zero, List.set_cons_succ, List.getElem?_cons_zero, List.getElem?_cons_succ, Option.getD_some, Nat.reduceSub, List.cons_append, List.nil_append, bin_neq, decide_true, not_false_eq_true, h0]
    exact gc_same (by rw [oE, if_neg h0])
theorem s61g (hL : L1 A x L) (hV : LL A y ws) (hs : Sz L ws) {os : List Int} {u : AV} (hu : L1 A u os) (hl : os.length ≤ 1000000) : ACalls Try.prog 61 [.agg [x, y], u] A (I (if kE L (lists ws) = 0 then (if ∀ o ∈ os, 0 ≤ o ∧ o ≤ (ws.length : Int) - 1 then 0 else 4) else kE L (lists ws))) A := by
  refine acalls hmix Try.func61 (by kernel_rfl) t61 2 rfl (by decide) ?_
  have hv := hs.v
  dsimp only [m61]
  simp (maxSteps := 4000000) -implicitDefEqProofs -dsimp (disch := omega) only [↓AW_ops, ↓AW_seq, ↓AOps_nil, ↓AOps_pu, ↓AOps_call, on_some, ↓then_normal, pval, rd_S, rd_C, put_S, chkd, bgot, AV.cells?, partA, eq_self, List.replicate_succ, List.replicate_zero, List.set_cons_zero, List.set_cons_succ, List.getElem?_cons_zero, List.getElem?_cons_succ, List.drop_zero, List.take_succ_cons, List.take_nil, Option.getD_some, map_c, map_n, List.length_cons, List.length_nil, Nat.reduceAdd, Nat.reduceSub, Nat.reduceLeDiff, Nat.reduceEqDiff, Nat.zero_add, List.cons_append, List.nil_append, if_true, if_false]
  refine CallK.of (s27 hL hV hs.l hs.v hs.w) ?_
  by_cases h0 : kE L (lists ws) = 0
  · simp (maxSteps := 4000000) -implicitDefEqProofs -dsimp (disch := omega) only [↓AW_skip, ↓AW_ops, ↓AW_seq, ↓AW_cond, ↓AW_block, ↓AOps_nil, ↓AOps_pu, on_some, extK_same, condB_f, ↓then_normal, pval, rd_S, rd_C, put_S, ↓AW_toLoop, eq_self, List.replicate_succ, List.replicate_zero, List.set_cons_zero, List.set_cons_succ, List.getElem?_cons_zero, List.getElem?_cons_succ, Option.getD_some, Nat.reduceSub, List.cons_append, List.nil_append, bin_neq, decide_false, not_true_eq_false, h0]
    refine LoopK.by 28 (fun i : Nat => i ≤ os.length ∧ ∀ o ∈ os.take i, 0 ≤ o ∧ o ≤ (ws.length : Int) - 1) (fun i => [(1, u), (2, .agg [x, y]), (6, I i)]) (fun _ => A) (fun i => os.length - i) 0 ⟨by omega, by simp⟩ rfl (by simp [Has, rd_s]) rfl ?_
    rintro i ⟨hi, he⟩
    by_cases hlt : i < os.length
    · obtain ⟨o, hz⟩ : ∃ z, os[i]? = some z := ⟨_, List.getElem?_eq_getElem hlt⟩
      have hlt' : (i : Int) < os.length := by omega
      simp (maxSteps := 4000000) -implicitDefEqProofs -dsimp (disch := omega) only [↓AW_skip, ↓AW_ops, ↓AW_seq, ↓AW_cond, ↓AW_block, ↓AOps_nil, ↓AOps_pu, ↓AOps_ld, ↓AOps_call, on_some, condB_t, ↓then_normal, pval, lval, rd_S, rd_C, put_S, chkd, isAdr, bgot, AV.cells?, partA, eq_self, mk, List.foldl_cons, List.foldl_nil, List.replicate_succ, List.replicate_zero, List.set_cons_zero, List.set_cons_succ, List.getElem?_cons_zero, List.getElem?_cons_succ, List.drop_zero, List.drop_succ_cons, List.take_succ_cons, List.take_nil, Option.getD_some, map_c, map_n, List.length_cons, List.length_nil, Nat.reduceAdd, Nat.reduceLeDiff, Nat.zero_add, bin_sub, bin_lss, w64, if_true, if_false, Bool.false_eq_true, decide_true, Go.Eng.e1, hlt', hu.len, hu.idx hlt, hu.ld0 hz 1 false (by decide), hV.ls.len]
      refine CallK.of (c_rw _ _ _ _) ?_
      by_cases h1 : 0 ≤ o ∧ o ≤ (ws.length : Int) - 1
      · simp (maxSteps := 4000000) -implicitDefEqProofs -dsimp (disch := omega) only [↓AW_skip, ↓AW_ops, ↓AW_cond, ↓AOps_nil, ↓AOps_pu, on_some, extK_same, condB_f, ↓then_normal, ↓inBlock_normal, pval, rd_S, rd_C, put_S, eq_self, mk, List.foldl_cons, List.foldl_nil, List.replicate_succ, List.replicate_zero, List.set_cons_zero, List.set_cons_succ, List.getElem?_cons_zero, List.getElem?_cons_succ, Option.getD_some, List.length_cons, List.length_nil, Nat.reduceAdd, Nat.zero_add, bin_add, w64, Bool.not_true, decide_true, true_and, and_true, h1]
        refine ⟨i + 1, ⟨hlt, fun o' ho => ?_⟩, by simp [Has, rd_s], by omega⟩
        rcases (take_mem hz).1 ho with ho | rfl
        · exact he o' ho
        · exact h1
      · simp (maxSteps := 4000000) -implicitDefEqProofs -dsimp (disch := omega) only [↓AW_ops, ↓AW_seq, ↓AW_cond, ↓AW_ret, ↓AOps_nil, ↓AOps_pu, on_some, extK_same, condB_t, ↓then_normal, ↓then_ret, ↓inBlock_ret, ↓Fin_ret, pval, rd_S, rd_C, put_S, resV, resL, mk, List.foldl_cons, List.foldl_nil, List.replicate_succ, List.replicate_zero, List.set_cons_zero, List.set_cons_succ, List.getElem?_cons_zero, List.getElem?_cons_succ, Option.getD_some, Bool.not_false, decide_false, h1]
        exact gc_same (by rw [if_pos h0, if_neg (fun hh => h1 (hh o (List.mem_of_getElem? hz)))])
    · have hlt' : ¬ ((i : Int) < os.length) := by omega
      rw [List.take_of_length_le (by omega)] at he
      simp (maxSteps := 4000000) -implicitDefEqProofs -dsimp (disch := omega) only [↓AW_ops, ↓AW_seq, ↓AW_cond, ↓AW_exit, ↓AW_ret, ↓AOps_nil, ↓AOps_pu, on_some, condB_f, ↓then_normal, ↓then_exit, ↓inBlock_exit, ↓Fin_ret, pval, rd_S, rd_C, put_S, resV, resL, eq_self, mk, List.foldl_cons, List.foldl_nil, List.replicate_succ, List.replicate_zero, List.set_cons_zero, List.set_cons_succ, List.getElem?_cons_zero, List.getElem?_cons_succ, Option.getD_some, bin_lss, if_true, decide_false, hlt', hu.len]
      exact gc_same (by rw [if_pos h0, if_pos he])
  · simp (maxSteps := 4000000) -implicitDefEqProofs -dsimp (disch := omega) only [↓AW_ops, ↓AW_seq, ↓AW_cond, ↓AW_ret, ↓AOps_nil, ↓AOps_pu, on_some, extK_same, condB_t, ↓then_normal, ↓then_ret, ↓Fin_ret, pval, rd_S, rd_C, put_S, resV, resL, List.replicate_succ, List.replicate_zero, List.set_cons_zero, List.set_cons_succ, List.getElem?_cons_zero, List.getElem?_cons_succ, Option.getD_some, Nat.reduceSub, List.cons_append, List.nil_append, bin_neq, if_false, decide_true, not_false_eq_true, h0]
    exact gc_same rfl
theorem s61 (hL : L1 A x L) (hV : LL A y ws) (hs : Sz L ws) {o : Int} {u : AV} (hu : L1 A u [o]) : ACalls Try.prog 61 [.agg [x, y], u] A (I (oE L (lists ws) o)) A := by
  have h := s61g hL hV hs hu (by simp)
  have hll : ((lists ws).length : Int) = ws.length := by simp
  unfold oE
  rw [hll]
  simpa using h
end
end Go.Proofs.Ytmblehbjedpjoaa

namespace Go.Proofs.Ytmblehbjedpjoaa
open Go Go.Eng
section
variable {L : List Int} {ws : List (AV × List Int)} {x y : AV} {A : AHeap}
theorem c_worth (hL : L1 A x L) (hV : LL A y ws) (h : KG L (lists ws)) {o : Nat} {w : AV × List Int} (ho : ws[o]? = some w) (p q : Rat) (hp : Pl (L.zip w.2) p) (hq : Pl (L.zip w.2) q) (hpq : p ≤ q) :
    ACalls Try.prog 66 [.agg [x, y], I o, R p, R q] A (R (upTo 0 (L.zip w.2) q - upTo 0 (L.zip w.2) p)) A := by
  refine acalls hmix Try.func66 (by kernel_rfl) t66 4 rfl (by decide) ?_
  have h6 := h.l6
  have hm := List.mem_of_getElem? ho
  have hmr := mem_lists hm
  have hx := hV.inn w hm
  have hol : o < ws.length := (List.getElem?_eq_some_iff.1 ho).1
  have hrl := h.rl _ hmr
  have hg := h.gd hmr
  have hlt0 := h.lenz_take hmr
  have hzl := h.zlen hmr
  dsimp only [m66]
  simp (maxSteps := 4000000) -implicitDefEqProofs -dsimp (disch := omega) only [↓AW_ops, ↓AW_seq, ↓AOps_nil, ↓AOps_pu, ↓AOps_call, on_some, ↓then_normal, pval, rd_S, rd_C, put_S, AV.cells?, List.replicate_succ, List.replicate_zero, List.set_cons_zero, List.set_cons_succ, List.getElem?_cons_zero, List.getElem?_cons_succ, Option.getD_some, map_c, map_n, Nat.reduceSub, List.cons_append, List.nil_append]
  refine CallK.of (s76 0 _) ?_
  simp (maxSteps := 4000000) -implicitDefEqProofs -dsimp (disch := omega) only [↓AW_ops, ↓AW_seq, ↓AW_block, ↓AOps_nil, ↓AOps_pu, on_some, extK_same, ↓then_normal, pval, rd_S, rd_C, put_S, ↓AW_toLoop, chkd, isAdr, bput, bgot, AV.cells?, splice, partA, eq_self, List.replicate_succ, List.replicate_zero, List.set_cons_zero, List.set_cons_succ, List.getElem?_cons_zero, List.getElem?_cons_succ, List.drop_zero, List.drop_succ_cons, List.drop_nil, List.take_zero, List.take_succ_cons, Option.getD_some, List.length_cons, List.length_nil, Nat.reduceAdd, Nat.reduceSub, Nat.reduceLeDiff, Nat.zero_add, List.cons_append, List.nil_append, List.append_nil, if_true, if_false, Bool.false_eq_true, ne_eq, not_true_eq_false, hL.len]
  refine LoopK.by 57 (fun z : Nat × Rat => z.1 ≤ L.length ∧ z.2 = upTo 0 ((L.zip w.2).take z.1) q - upTo 0 ((L.zip w.2).take z.1) p) (fun z => [(1, I o), (4, .agg [x, y]), (6, R p), (7, R q), (8, .agg [I 0, I 0]), (9, R z.2), (10, I (L.take z.1).sum), (17, x), (18, I L.length), (19, I z.1)]) (fun _ => A) (fun z => L.length - z.1) (0, ((0 : Int) : Rat)) ⟨by omega, by simp [upTo, Rat.sub_self]⟩ rfl (by simp [Has, rd_s]) rfl ?_
  rintro ⟨i, out⟩ ⟨hi, hout⟩
  simp only at hi hout
  by_cases hlt : i < L.length
  · obtain ⟨n, hz⟩ : ∃ z, L[i]? = some z := ⟨_, List.getElem?_eq_getElem hlt⟩
    have hlt' : (i : Int) < L.length := by omega
    have hlw : i < w.2.length := by omega
    obtain ⟨v, hv⟩ : ∃ v, w.2[i]? = some v := ⟨_, List.getElem?_eq_getElem hlw⟩
    have hzv := zip_at hz hv
    have hgt := good_take hg i
    have hn := h.ls n (List.mem_of_getElem? hz)
    have hvv := h.rv _ hmr v (List.mem_of_getElem? hv)
    have hvz : vz (n, v) = true := (vz_iff _).2 ⟨hn, hvv⟩
    have hlb := h.take i
    have hts := take_sum_succ' hz
    have hzp := zone_part hg hp hq hpq _ hgt (n, v) hvz _ _ rfl rfl
    have hup := upTo_take hzv p
    have huq := upTo_take hzv q
    rw [hlt0 i] at hzp hup huq
    have hpe := part_eq p q (((L.take i).sum : Int) : Rat) (((L.take i).sum + n : Int) : Rat) (v : Rat) hpq (Rat.intCast_le_intCast.2 (by omega))
    have hSb : Sm (((L.take i).sum : Int) : Rat) := Sm_int (by omega)
    have hSe : Sm (((L.take i).sum + n : Int) : Rat) := Sm_int (by omega)
    simp (maxSteps := 4000000) -implicitDefEqProofs -dsimp (disch := omega) only [↓AW_skip, ↓AW_ops, ↓AW_seq, ↓AW_cond, ↓AW_block, ↓AOps_nil, ↓AOps_pu, ↓AOps_ld, ↓AOps_call, on_some, condB_t, ↓then_normal, pval, lval, rd_S, put_S, chkd, bgot, partA, eq_self, mk, List.foldl_cons, List.foldl_nil, List.replicate_succ, List.replicate_zero, List.set_cons_zero, List.set_cons_succ, List.getElem?_cons_zero, List.getElem?_cons_succ, List.drop_zero, List.take_succ_cons, List.take_nil, Option.getD_some, map_c, map_n, List.length_cons, List.length_nil, Nat.reduceAdd, Nat.reduceLeDiff, Nat.reduceEqDiff, Nat.zero_add, bin_lss, if_true, if_false, Bool.false_eq_true, decide_true, Go.Eng.e1, hlt', hL.idx hlt, hL.ld0 hz 1 false (by decide)]
    refine CallK.of (s76 _ _) ?_
    simp (maxSteps := 4000000) -implicitDefEqProofs -dsimp (disch := omega) only [↓AOps_call, extK_same, rd_S, put_S, mk, List.foldl_cons, List.foldl_nil, List.replicate_succ, List.replicate_zero, List.set_cons_zero, List.set_cons_succ, List.getElem?_cons_zero, List.getElem?_cons_succ, Option.getD_some, map_c, map_n]
    refine CallK.of (s108 _ _ _ (hp.sm hg) hSb) ?_
    simp (maxSteps := 4000000) -implicitDefEqProofs -dsimp (disch := omega) only [↓AOps_pu, ↓AOps_call, on_some, extK_same, pval, rd_S, put_S, chkd, bgot, partA, eq_self, mk, List.foldl_cons, List.foldl_nil, List.replicate_succ, List.replicate_zero, List.set_cons_zero, List.set_cons_succ, List.getElem?_cons_zero, List.getElem?_cons_succ, List.drop_zero, List.take_succ_cons, List.take_nil, Option.getD_some, map_c, map_n, List.length_cons, List.length_nil, Nat.reduceAdd, Nat.reduceLeDiff, Nat.reduceEqDiff, Nat.zero_add, bin_add, w64, if_true, if_false]
    refine CallK.of (s76 _ _) ?_
    simp (maxSteps := 4000000) -implicitDefEqProofs -dsimp (disch := omega) only [↓AOps_call, extK_same, rd_S, put_S, mk, List.foldl_cons, List.foldl_nil, List.replicate_succ, List.replicate_zero, List.set_cons_zero, List.set_cons_succ, List.getElem?_cons_zero, List.getElem?_cons_succ, Option.getD_some, map_c, map_n]
    refine CallK.of (s113 _ _ _ (hq.sm hg) hSe) ?_
    simp (maxSteps := 4000000) -implicitDefEqProofs -dsimp (disch := omega) only [↓AW_ops, ↓AW_seq, ↓AOps_nil, ↓AOps_pu, ↓AOps_call, on_some, extK_same, ↓then_normal, pval, rd_S, rd_C, put_S, chkd, bput, bgot, AV.cells?, splice, partA, eq_self, mk, List.foldl_cons, List.foldl_nil, List.replicate_succ, List.replicate_zero, List.set_cons_zero, List.set_cons_succ, List.getElem?_cons_zero, List.getElem?_cons_succ, List.drop_zero, List.drop_succ_cons, List.drop_nil, List.take_zero, List.take_succ_cons, List.take_nil, Option.getD_some, map_c, map_n, List.length_cons, List.length_nil, Nat.reduceAdd, Nat.reduceLeDiff, Nat.reduceEqDiff, Nat.zero_add, List.nil_append, List.append_nil, if_true, if_false, ne_eq, not_true_eq_false]
    have hSlo : Sm (if (((L.take i).sum : Int) : Rat) < p then p else (((L.take i).sum : Int) : Rat)) := by
      split
      · exact hp.sm hg
      · exact hSb
    have hShi : Sm (if q < (((L.take i).sum + n : Int) : Rat) then q else (((L.take i).sum + n : Int) : Rat)) := by
      split
      · exact hq.sm hg
      · exact hSe
    generalize (if (((L.take i).sum : Int) : Rat) < p then p else (((L.take i).sum : Int) : Rat)) = lo at *
    generalize (if q < (((L.take i).sum + n : Int) : Rat) then q else (((L.take i).sum + n : Int) : Rat)) = hi' at *
    refine CallK.of (s65 lo hi' _ hSlo hShi) ?_
    by_cases hlh : lo < hi'
    · obtain ⟨_, f1, ⟨f2, f3⟩, f4⟩ := hzp hlh
      simp only at f2 f4
      rw [← hout] at f4
      have hneg := (sub_neg_iff lo hi').2 hlh
      simp (maxSteps := 4000000) -implicitDefEqProofs -dsimp (disch := omega) only [↓AW_ops, ↓AW_cond, ↓AOps_nil, ↓AOps_pu, ↓AOps_call, on_some, extK_same, condB_t, ↓then_normal, pval, rd_S, rd_C, put_S, chkd, bgot, partA, eq_self, mk, List.foldl_cons, List.foldl_nil, List.replicate_succ, List.replicate_zero, List.set_cons_zero, List.set_cons_succ, List.getElem?_cons_zero, List.getElem?_cons_succ, List.drop_zero, List.take_succ_cons, List.take_nil, Option.getD_some, map_c, map_n, List.length_cons, List.length_nil, Nat.reduceAdd, Nat.reduceLeDiff, Nat.reduceEqDiff, Nat.zero_add, bin_lss, if_true, if_false, decide_true, hneg]
      refine CallK.of (s95g _ _ _ f1) ?_
      simp (maxSteps := 4000000) -implicitDefEqProofs -dsimp (disch := omega) only [↓AOps_pu, ↓AOps_ld, ↓AOps_call, on_some, extK_same, pval, lval, rd_S, put_S, chkd, isAdr, bgot, AV.cells?, partA, eq_self, mk, List.foldl_cons, List.foldl_nil, List.replicate_succ, List.replicate_zero, List.set_cons_zero, List.set_cons_succ, List.getElem?_cons_zero, List.getElem?_cons_succ, List.drop_zero, List.drop_succ_cons, List.take_succ_cons, List.take_nil, Option.getD_some, map_c, map_n, List.length_cons, List.length_nil, Nat.reduceAdd, Nat.reduceLeDiff, Nat.zero_add, if_true, if_false, Bool.false_eq_true, Go.Eng.e1, hV.ls.idx hol, hV.ls.ld0 ho 1 false (by decide), e0, hx.idx hlw, hx.ld0 hv 1 false (by decide)]
      refine CallK.of (s109g _ _ _ f2 f3 (by omega)) ?_
      simp (maxSteps := 4000000) -implicitDefEqProofs -dsimp (disch := omega) only [↓AOps_call, extK_same, rd_S, put_S, mk, List.foldl_cons, List.foldl_nil, List.replicate_succ, List.replicate_zero, List.set_cons_zero, List.set_cons_succ, List.getElem?_cons_zero, List.getElem?_cons_succ, Option.getD_some, map_c, map_n]
      refine CallK.of (s75g _ _ _ f4) ?_
      simp (maxSteps := 4000000) -implicitDefEqProofs -dsimp (disch := omega) only [↓AW_ops, ↓AOps_nil, ↓AOps_pu, on_some, extK_same, ↓then_normal, ↓inBlock_normal, pval, rd_S, rd_C, put_S, chkd, bput, AV.cells?, splice, eq_self, mk, List.foldl_cons, List.foldl_nil, List.replicate_succ, List.replicate_zero, List.set_cons_zero, List.set_cons_succ, List.getElem?_cons_zero, List.getElem?_cons_succ, List.drop_succ_cons, List.drop_nil, List.take_zero, Option.getD_some, List.length_cons, List.length_nil, Nat.reduceAdd, Nat.reduceLeDiff, Nat.zero_add, List.nil_append, List.append_nil, bin_add, w64, if_true, if_false, true_and, ne_eq, not_true_eq_false]
      rw [if_pos hlh] at hpe
      refine ⟨(i + 1, out + (hi' - lo) * v), ⟨hlt, ?_⟩, by simp [Has, rd_s, hts], by simp only; omega⟩
      simp only
      rw [hup, huq, hpe, hout]
      grind
    · have hneg : ¬ (lo - hi').num < 0 := fun x => hlh ((sub_neg_iff lo hi').1 x)
      simp (maxSteps := 4000000) -implicitDefEqProofs -dsimp (disch := omega) only [↓AW_skip, ↓AW_ops, ↓AW_cond, ↓AOps_nil, ↓AOps_pu, on_some, extK_same, condB_f, ↓then_normal, ↓inBlock_normal, pval, rd_S, rd_C, put_S, eq_self, mk, List.foldl_cons, List.foldl_nil, List.replicate_succ, List.replicate_zero, List.set_cons_zero, List.set_cons_succ, List.getElem?_cons_zero, List.getElem?_cons_succ, Option.getD_some, List.length_cons, List.length_nil, Nat.reduceAdd, Nat.zero_add, bin_add, bin_lss, w64, decide_false, true_and, hneg]
      rw [if_neg hlh] at hpe
      refine ⟨(i + 1, out), ⟨hlt, ?_⟩, by simp [Has, rd_s, hts], by simp only; omega⟩
      simp only
      rw [hup, huq, hout]
      grind
  · have hlt' : ¬ ((i : Int) < L.length) := by omega
    simp (maxSteps := 4000000) -implicitDefEqProofs -dsimp (disch := omega) only [↓AW_ops, ↓AW_seq, ↓AW_cond, ↓AW_exit, ↓AW_ret, ↓AOps_nil, ↓AOps_pu, on_some, condB_f, ↓then_normal, ↓then_exit, ↓inBlock_exit, ↓Fin_ret, pval, rd_S, put_S, resV, resL, chkd, bput, bgot, AV.cells?, splice, partA, eq_self, mk, List.foldl_cons, List.foldl_nil, List.replicate_succ, List.replicate_zero, List.set_cons_zero, List.set_cons_succ, List.getElem?_cons_zero, List.getElem?_cons_succ, List.drop_zero, List.drop_succ_cons, List.drop_nil, List.take_zero, List.take_succ_cons, List.take_nil, Option.getD_some, List.length_cons, List.length_nil, Nat.reduceAdd, Nat.reduceLeDiff, Nat.reduceEqDiff, Nat.zero_add, List.nil_append, List.append_nil, bin_lss, if_true, if_false, decide_false, ne_eq, not_true_eq_false, hlt']
    rw [List.take_of_length_le (by omega)] at hout
    exact gc_same (by rw [hout])
end
def qr (r : Int × Int) : Rat := (r.1 : Rat) / (r.2 : Rat)
theorem isK_R {L : List Int} {V : List (List Int)} (h : KG L V) {r : Int × Int} (hk : isK L r) : AV.agg [I r.1, I r.2] = R (qr r) ∧ (qr r).num = r.1 ∧ ((qr r).den : Int) = r.2 ∧ ∀ row ∈ V, Pl (L.zip row) (qr r) := by
  obtain ⟨⟨⟨h1, h2⟩, h3⟩, h4, h5⟩ := hk
  have e := R_of (by omega) h3
  obtain ⟨e1, e2⟩ := R_inj e.symm
  refine ⟨e, e1, e2, fun row hr => ?_⟩
  unfold Pl
  rw [h.lenz hr]
  show (0 ≤ (qr r).num ∧ (qr r).num ≤ L.sum * ((qr r).den : Int)) ∧ ((qr r).den : Int) ≤ 1048576
  rw [show (qr r).num = r.1 from e1, show ((qr r).den : Int) = r.2 from e2]
  omega
section
variable {L : List Int} {ws : List (AV × List Int)} {x y : AV} {A : AHeap}
/-- What the answers are. -/
def wE (L : List Int) (V : List (List Int)) (o : Int) (r s : Int × Int) : Int := if oE L V o = 0 then (if isK L r ∧ isK L s ∧ ¬ qr s < qr r then 0 else 1) else oE L V o
def rowOf (V : List (List Int)) (o : Int) : List Int := (V[o.toNat]?).getD []
def fOf (L : List Int) (V : List (List Int)) (o : Int) : List (Int × Int) := L.zip (rowOf V o)
def wV (L : List Int) (V : List (List Int)) (o : Int) (r s : Int × Int) : AV := if wE L V o r s = 0 then R (upTo 0 (fOf L V o) (qr s) - upTo 0 (fOf L V o) (qr r)) else zeroR
theorem rowOf_at {o : Nat} {w : AV × List Int} (ho : ws[o]? = some w) : rowOf (lists ws) o = w.2 := by
  unfold rowOf
  simp [ho]
theorem s24 (hL : L1 A x L) (hV : LL A y ws) (hs : Sz L ws) (o : Int) (r s : Int × Int) (hr : W r.1) (hs' : W s.1) :
    ACalls Try.prog 24 [.agg [x, y], I o, .agg [I r.1, I r.2], .agg [I s.1, I s.2]] A (.tuple [wV L (lists ws) o r s, I (wE L (lists ws) o r s)]) A := by
  refine acalls hmix Try.func24 (by kernel_rfl) t24 4 rfl (by decide) ?_
  dsimp only [m24]
  simp (maxSteps := 4000000) -implicitDefEqProofs -dsimp (disch := omega) only [↓AW_ops, ↓AW_seq, ↓AOps_nil, ↓AOps_pu, ↓AOps_call, on_some, ↓then_normal, pval, rd_S, rd_C, put_S, chkd, bgot, AV.cells?, partA, eq_self, List.replicate_succ, List.replicate_zero, List.set_cons_zero, List.set_cons_succ, List.getElem?_cons_zero, List.getElem?_cons_succ, List.drop_zero, List.take_succ_cons, List.take_nil, Option.getD_some, map_c, map_n, List.length_cons, List.length_nil, Nat.reduceAdd, Nat.reduceSub, Nat.reduceLeDiff, Nat.reduceEqDiff, Nat.zero_add, List.cons_append, List.nil_append, if_true, if_false]
  refine CallK.of (s56 hL hV hs o) ?_
  by_cases h0 : oE L (lists ws) o = 0
  · obtain ⟨hg, k, w, rfl, hk⟩ := oE_row h0
    have hmr := mem_lists (List.mem_of_getElem? hk)
    simp (maxSteps := 4000000) -implicitDefEqProofs -dsimp (disch := omega) only [↓AW_skip, ↓AW_ops, ↓AW_seq, ↓AW_cond, ↓AOps_nil, ↓AOps_pu, ↓AOps_call, on_some, extK_same, condB_f, ↓then_normal, pval, rd_S, rd_C, put_S, chkd, bgot, partA, eq_self, List.replicate_succ, List.replicate_zero, List.set_cons_zero, List.set_cons_succ, List.getElem?_cons_zero, List.getElem?_cons_succ, List.drop_zero, List.take_succ_cons, List.take_nil, Option.getD_some, map_c, map_n, List.length_cons, List.length_nil, Nat.reduceAdd, Nat.reduceSub, Nat.reduceLeDiff, Nat.reduceEqDiff, Nat.zero_add, List.cons_append, List.nil_append, bin_neq, if_true, if_false, decide_false, not_true_eq_false, h0]
    refine CallK.of (c_isK hL hg r hr) ?_
    by_cases h1 : isK L r
    · simp (maxSteps := 4000000) -implicitDefEqProofs -dsimp (disch := omega) only [↓AOps_pu, ↓AOps_call, ↓AOps_guard, on_some, extK_same, guardB_ff, pval, rd_S, put_S, chkd, bgot, partA, eq_self, List.replicate_succ, List.replicate_zero, List.set_cons_zero, List.set_cons_succ, List.getElem?_cons_zero, List.getElem?_cons_succ, List.drop_zero, List.take_succ_cons, List.take_nil, Option.getD_some, map_c, map_n, List.length_cons, List.length_nil, Nat.reduceAdd, Nat.reduceSub, Nat.reduceLeDiff, Nat.reduceEqDiff, Nat.zero_add, List.cons_append, List.nil_append, if_true, if_false, Bool.not_true, decide_true, h1]
      refine CallK.of (c_isK hL hg s hs') ?_
      by_cases h2 : isK L s
      · obtain ⟨k1, _, _, p1⟩ := isK_R hg h1
        obtain ⟨k2, _, _, p2⟩ := isK_R hg h2
        have p1 := p1 _ hmr
        have p2 := p2 _ hmr
        rw [k1, k2]
        have hgd := hg.gd hmr
        simp (maxSteps := 4000000) -implicitDefEqProofs -dsimp (disch := omega) only [↓AOps_pu, ↓AOps_call, ↓AOps_guard, on_some, extK_same, guardB_ff, pval, rd_S, rd_C, put_S, chkd, bgot, partA, eq_self, List.replicate_succ, List.replicate_zero, List.set_cons_zero, List.set_cons_succ, List.getElem?_cons_zero, List.getElem?_cons_succ, List.drop_zero, List.take_succ_cons, List.take_nil, Option.getD_some, map_c, map_n, List.length_cons, List.length_nil, Nat.reduceAdd, Nat.reduceSub, Nat.reduceLeDiff, Nat.reduceEqDiff, Nat.zero_add, List.cons_append, List.nil_append, if_true, if_false, Bool.false_eq_true, Bool.not_true, decide_true, h2]
        refine CallK.of (s65 _ _ _ (p1.sm hgd) (p2.sm hgd)) ?_
        by_cases h3 : qr s < qr r
        · have h3' := (sub_pos_iff (qr r) (qr s)).2 h3
          simp (maxSteps := 4000000) -implicitDefEqProofs -dsimp (disch := omega) only [↓AW_ops, ↓AW_seq, ↓AW_cond, ↓AW_ret, ↓AOps_nil, ↓AOps_pu, ↓AOps_guard, on_some, extK_same, guardB_ff, condB_t, ↓then_normal, ↓then_ret, ↓Fin_ret, pval, rd_S, rd_C, put_S, resV, resL, chkd, bput, bgot, AV.cells?, splice, partA, fillA, eq_self, List.replicate_succ, List.replicate_zero, List.set_cons_zero, List.set_cons_succ, List.getElem?_cons_zero, List.getElem?_cons_succ, List.drop_zero, List.drop_succ_cons, List.drop_nil, List.take_zero, List.take_succ_cons, List.take_nil, Option.getD_some, Option.map_some, map_n, List.length_cons, List.length_nil, Nat.reduceAdd, Nat.reduceSub, Nat.reduceLeDiff, Nat.reduceEqDiff, Nat.zero_add, List.cons_append, List.nil_append, List.append_nil, bin_gtr, if_true, if_false, Bool.false_eq_true, decide_true, ne_eq, not_true_eq_false, h3']
          have he : wE L (lists ws) k r s = 1 := by rw [wE, if_pos h0, if_neg (by simp [h3])]
          exact gc_same (by rw [wV, he]; rfl)
        · have h3' : ¬ 0 < (qr r - qr s).num := fun hh => h3 ((sub_pos_iff _ _).1 hh)
          simp (maxSteps := 4000000) -implicitDefEqProofs -dsimp (disch := omega) only [↓AW_skip, ↓AW_ops, ↓AW_seq, ↓AW_cond, ↓AOps_nil, ↓AOps_pu, ↓AOps_call, ↓AOps_guard, on_some, extK_same, guardB_ff, condB_f, ↓then_normal, pval, rd_S, rd_C, put_S, chkd, bgot, partA, eq_self, List.replicate_succ, List.replicate_zero, List.set_cons_zero, List.set_cons_succ, List.getElem?_cons_zero, List.getElem?_cons_succ, List.drop_zero, List.take_succ_cons, List.take_nil, Option.getD_some, map_c, map_n, List.length_cons, List.length_nil, Nat.reduceAdd, Nat.reduceSub, Nat.reduceLeDiff, Nat.reduceEqDiff, Nat.zero_add, List.cons_append, List.nil_append, bin_gtr, if_true, if_false, Bool.false_eq_true, decide_false, h3']
          refine CallK.of (c_worth hL hV hg hk _ _ p1 p2 (Rat.not_lt.1 h3)) ?_
          simp (maxSteps := 4000000) -implicitDefEqProofs -dsimp (disch := omega) only [↓AW_ret, ↓AOps_nil, ↓AOps_pu, on_some, extK_same, ↓then_normal, ↓Fin_ret, pval, rd_S, rd_C, put_S, resV, resL, chkd, bput, bgot, AV.cells?, splice, partA, eq_self, List.replicate_succ, List.replicate_zero, List.set_cons_zero, List.set_cons_succ, List.getElem?_cons_zero, List.getElem?_cons_succ, List.drop_zero, List.drop_succ_cons, List.drop_nil, List.take_zero, List.take_succ_cons, List.take_nil, Option.getD_some, List.length_cons, List.length_nil, Nat.reduceAdd, Nat.reduceSub, Nat.reduceLeDiff, Nat.reduceEqDiff, Nat.zero_add, List.cons_append, List.nil_append, List.append_nil, if_true, if_false, ne_eq, not_true_eq_false]
          have he : wE L (lists ws) k r s = 0 := by rw [wE, if_pos h0, if_pos ⟨h1, h2, h3⟩]
          exact gc_same (by rw [wV, he, if_pos rfl, fOf, rowOf_at hk])
      · simp (maxSteps := 4000000) -implicitDefEqProofs -dsimp (disch := omega) only [↓AW_ops, ↓AW_seq, ↓AW_cond, ↓AW_ret, ↓AOps_nil, ↓AOps_pu, ↓AOps_guard, on_some, extK_same, guardB_tf, guardB_ff, skipS_some, condB_t, ↓then_normal, ↓then_ret, ↓Fin_ret, pval, rd_S, rd_C, put_S, resV, resL, chkd, bput, bgot, AV.cells?, splice, partA, fillA, eq_self, List.replicate_succ, List.replicate_zero, List.set_cons_zero, List.set_cons_succ, List.getElem?_cons_zero, List.getElem?_cons_succ, List.drop_zero, List.drop_succ_cons, List.drop_nil, List.take_zero, List.take_succ_cons, List.take_nil, Option.getD_some, Option.map_some, map_n, List.length_cons, List.length_nil, Nat.reduceAdd, Nat.reduceSub, Nat.reduceLeDiff, Nat.reduceEqDiff, Nat.zero_add, List.cons_append, List.nil_append, List.append_nil, if_true, if_false, Bool.false_eq_true, Bool.not_false, decide_false, ne_eq, not_true_eq_false, h2]
        have he : wE L (lists ws) k r s = 1 := by rw [wE, if_pos h0, if_neg (by simp [h2])]
        exact gc_same (by rw [wV, he]; rfl)
    · simp (maxSteps := 4000000) -implicitDefEqProofs -dsimp (disch := omega) only [↓AW_ops, ↓AW_seq, ↓AW_cond, ↓AW_ret, ↓AOps_nil, ↓AOps_pu, ↓AOps_guard, on_some, extK_same, guardB_tf, skipS_some, condB_t, ↓then_normal, ↓then_ret, ↓Fin_ret, pval, rd_S, rd_C, put_S, resV, resL, chkd, bput, bgot, AV.cells?, splice, partA, fillA, eq_self, List.replicate_succ, List.replicate_zero, List.set_cons_zero, List.set_cons_succ, List.getElem?_cons_zero, List.getElem?_cons_succ, List.drop_zero, List.drop_succ_cons, List.drop_nil, List.take_zero, List.take_succ_cons, List.take_nil, Option.getD_some, Option.map_some, map_n, List.length_cons, List.length_nil, Nat.reduceAdd, Nat.reduceSub, Nat.reduceLeDiff, Nat.reduceEqDiff, Nat.zero_add, List.cons_append, List.nil_append, List.append_nil, if_true, if_false, Bool.not_false, decide_false, ne_eq, not_true_eq_false, h1]
      have he : wE L (lists ws) k r s = 1 := by rw [wE, if_pos h0, if_neg (by simp [h1])]
      exact gc_same (by rw [wV, he]; rfl)
  · simp (maxSteps := 4000000) -implicitDefEqProofs -dsimp (disch := omega) only [↓AW_ops, ↓AW_seq, ↓AW_cond, ↓AW_ret, ↓AOps_nil, ↓AOps_pu, on_some, extK_same, condB_t, ↓then_normal, ↓then_ret, ↓Fin_ret, pval, rd_S, rd_C, put_S, resV, resL, chkd, bput, bgot, AV.cells?, splice, partA, fillA, eq_self, List.replicate_succ, List.replicate_zero, List.set_cons_zero, List.set_cons_succ, List.getElem?_cons_zero, List.getElem?_cons_succ, List.drop_zero, List.drop_succ_cons, List.drop_nil, List.take_zero, List.take_succ_cons, List.take_nil, Option.getD_some, Option.map_some, map_n, List.length_cons, List.length_nil, Nat.reduceAdd, Nat.reduceSub, Nat.reduceLeDiff, Nat.reduceEqDiff, Nat.zero_add, List.cons_append, List.nil_append, List.append_nil, bin_neq, if_true, if_false, decide_true, ne_eq, not_true_eq_false, not_false_eq_true, h0]
    have he : wE L (lists ws) o r s = oE L (lists ws) o := by rw [wE, if_neg h0]
    exact gc_same (by rw [wV, he, if_neg h0]; rfl)
theorem s25 (hL : L1 A x L) (hV : LL A y ws) (hs : Sz L ws) (o : Int) (r s : Int × Int) (hr : W r.1) (hs' : W s.1) :
    ACalls Try.prog 25 [.agg [x, y], I o, .agg [I r.1, I r.2], .agg [I s.1, I s.2]] A (.tuple [wV L (lists ws) o r s, I (wE L (lists ws) o r s)]) A := by
  refine acalls hmix Try.func25 (by kernel_rfl) t25 4 rfl (by decide) ?_
  dsimp only [m25]
  simp (maxSteps := 4000000) -implicitDefEqProofs -dsimp (disch := omega) only [↓AW_ops, ↓AW_seq, ↓AOps_nil, ↓AOps_pu, ↓AOps_ha, ↓AOps_call, on_some, extK_app, ↓then_normal, pval, hval, rd_S, rd_C, put_S, chkd, bgot, AV.cells?, splice, partA, fillA, repl, eq_self, List.replicate_succ, List.replicate_zero, List.set_cons_zero, List.set_cons_succ, List.getElem?_cons_zero, List.getElem?_cons_succ, List.drop_zero, List.drop_succ_cons, List.drop_nil, List.take_zero, List.take_succ_cons, List.take_nil, Option.getD_some, map_c, map_n, List.length_cons, List.length_nil, Nat.reduceAdd, Nat.reduceSub, Nat.reduceLeDiff, Nat.reduceEqDiff, Nat.zero_add, List.cons_append, List.nil_append, List.append_nil, if_true, if_false, and_true]
  have hp1 := pre_app A [.cells true [I o]]
  have hL1 := hL.mono hp1
  have hV1 := hV.mono hp1
  refine CallK.of (s61 hL1 hV1 hs (L1_one A o)) ?_
  generalize hA1 : A ++ [AObj.cells true [I o]] = A1 at *
  by_cases h0 : oE L (lists ws) o = 0
  · obtain ⟨hg, k, w, rfl, hk⟩ := oE_row h0
    have hmr := mem_lists (List.mem_of_getElem? hk)
    simp (maxSteps := 4000000) -implicitDefEqProofs -dsimp (disch := omega) only [↓AW_skip, ↓AW_ops, ↓AW_seq, ↓AW_cond, ↓AOps_nil, ↓AOps_pu, ↓AOps_call, on_some, extK_same, condB_f, ↓then_normal, pval, rd_S, rd_C, put_S, chkd, bgot, partA, eq_self, List.replicate_succ, List.replicate_zero, List.set_cons_zero, List.set_cons_succ, List.getElem?_cons_zero, List.getElem?_cons_succ, List.drop_zero, List.take_succ_cons, List.take_nil, Option.getD_some, map_c, map_n, List.length_cons, List.length_nil, Nat.reduceAdd, Nat.reduceSub, Nat.reduceLeDiff, Nat.reduceEqDiff, Nat.zero_add, List.cons_append, List.nil_append, bin_neq, if_true, if_false, decide_false, not_true_eq_false, h0]
    refine CallK.of (c_risK hL1 hV1 hg r hr) ?_
    by_cases h1 : isK L r
    · simp (maxSteps := 4000000) -implicitDefEqProofs -dsimp (disch := omega) only [↓AOps_pu, ↓AOps_call, ↓AOps_guard, on_some, extK_same, guardB_ff, pval, rd_S, put_S, chkd, bgot, partA, eq_self, List.replicate_succ, List.replicate_zero, List.set_cons_zero, List.set_cons_succ, List.getElem?_cons_zero, List.getElem?_cons_succ, List.drop_zero, List.take_succ_cons, List.take_nil, Option.getD_some, map_c, map_n, List.length_cons, List.length_nil, Nat.reduceAdd, Nat.reduceSub, Nat.reduceLeDiff, Nat.reduceEqDiff, Nat.zero_add, List.cons_append, List.nil_append, if_true, if_false, Bool.not_true, decide_true, h1]
      refine CallK.of (c_risK hL1 hV1 hg s hs') ?_
      by_cases h2 : isK L s
      · obtain ⟨k1, _, _, p1⟩ := isK_R hg h1
        obtain ⟨k2, _, _, p2⟩ := isK_R hg h2
        have p1 := p1 _ hmr
        have p2 := p2 _ hmr
        rw [k1, k2]
        have hgd := hg.gd hmr
        simp (maxSteps := 4000000) -implicitDefEqProofs -dsimp (disch := omega) only [↓AOps_pu, ↓AOps_call, ↓AOps_guard, on_some, extK_same, guardB_ff, pval, rd_S, rd_C, put_S, chkd, bgot, partA, eq_self, List.replicate_succ, List.replicate_zero, List.set_cons_zero, List.set_cons_succ, List.getElem?_cons_zero, List.getElem?_cons_succ, List.drop_zero, List.take_succ_cons, List.take_nil, Option.getD_some, map_c, map_n, List.length_cons, List.length_nil, Nat.reduceAdd, Nat.reduceSub, Nat.reduceLeDiff, Nat.reduceEqDiff, Nat.zero_add, List.cons_append, List.nil_append, if_true, if_false, Bool.false_eq_true, Bool.not_true, decide_true, h2]
        refine CallK.of (s19 _ _ _ (p2.sm hgd) (p1.sm hgd)) ?_
        by_cases h3 : qr s < qr r
        · simp (maxSteps := 4000000) -implicitDefEqProofs -dsimp (disch := omega) only [↓AW_ops, ↓AW_seq, ↓AW_cond, ↓AW_ret, ↓AOps_nil, ↓AOps_pu, on_some, extK_same, condB_t, ↓then_normal, ↓then_ret, ↓Fin_ret, pval, rd_S, rd_C, put_S, resV, resL, chkd, bput, bgot, AV.cells?, splice, partA, fillA, eq_self, List.replicate_succ, List.replicate_zero, List.set_cons_zero, List.set_cons_succ, List.getElem?_cons_zero, List.getElem?_cons_succ, List.drop_zero, List.drop_succ_cons, List.drop_nil, List.take_zero, List.take_succ_cons, List.take_nil, Option.getD_some, Option.map_some, map_n, List.length_cons, List.length_nil, Nat.reduceAdd, Nat.reduceSub, Nat.reduceLeDiff, Nat.reduceEqDiff, Nat.zero_add, List.cons_append, List.nil_append, List.append_nil, if_true, if_false, Bool.false_eq_true, decide_true, ne_eq, not_true_eq_false, h3]
          have he : wE L (lists ws) k r s = 1 := by rw [wE, if_pos h0, if_neg (by simp [h3])]
          exact gc_val hp1 (by rw [wV, he]; rfl)
        · simp (maxSteps := 4000000) -implicitDefEqProofs -dsimp (disch := omega) only [↓AW_skip, ↓AW_ops, ↓AW_seq, ↓AW_cond, ↓AOps_nil, ↓AOps_pu, ↓AOps_call, on_some, extK_same, condB_f, ↓then_normal, pval, rd_S, rd_C, put_S, chkd, bgot, partA, eq_self, List.replicate_succ, List.replicate_zero, List.set_cons_zero, List.set_cons_succ, List.getElem?_cons_zero, List.getElem?_cons_succ, List.drop_zero, List.take_succ_cons, List.take_nil, Option.getD_some, map_c, map_n, List.length_cons, List.length_nil, Nat.reduceAdd, Nat.reduceSub, Nat.reduceLeDiff, Nat.reduceEqDiff, Nat.zero_add, List.cons_append, List.nil_append, if_true, if_false, Bool.false_eq_true, decide_false, h3]
          refine CallK.of (c_units hL1 hV1 hg hk) ?_
          have hu := units_ls A1 (L.zip w.2)
          have hp := pre_out A1 ((units (L.zip w.2)).flatMap e1) (units (L.zip w.2)).length
          have hl := len_units hgd.2
          have hlb := len_bound hgd
          simp (maxSteps := 4000000) -implicitDefEqProofs -dsimp (disch := omega) only [↓AOps_pu, ↓AOps_call, on_some, extK_false, pval, rd_S, put_S, chkd, bgot, partA, eq_self, List.replicate_succ, List.replicate_zero, List.set_cons_zero, List.set_cons_succ, List.getElem?_cons_zero, List.getElem?_cons_succ, List.drop_zero, List.take_succ_cons, List.take_nil, Option.getD_some, map_c, map_n, List.length_cons, List.length_nil, Nat.reduceAdd, Nat.reduceSub, Nat.reduceLeDiff, Nat.reduceEqDiff, Nat.zero_add, List.cons_append, List.nil_append, if_true, if_false]
          have hb := s67 hu (by omega) (units_le hgd.2) _ _ (p1.sm hgd) (p2.sm hgd) p1.1.1 (by rw [hl]; exact p1.1.2) p2.1.1 (by rw [hl]; exact p2.1.2)
          rw [upTo_units _ _ 0 hgd.2, upTo_units _ _ 0 hgd.2] at hb
          refine CallK.of hb ?_
          simp (maxSteps := 4000000) -implicitDefEqProofs -dsimp (disch := omega) only [↓AW_ret, ↓AOps_nil, ↓AOps_pu, on_some, extK_same, ↓then_normal, ↓Fin_ret, pval, rd_S, rd_C, put_S, resV, resL, chkd, bput, bgot, AV.cells?, splice, partA, eq_self, List.replicate_succ, List.replicate_zero, List.set_cons_zero, List.set_cons_succ, List.getElem?_cons_zero, List.getElem?_cons_succ, List.drop_zero, List.drop_succ_cons, List.drop_nil, List.take_zero, List.take_succ_cons, List.take_nil, Option.getD_some, List.length_cons, List.length_nil, Nat.reduceAdd, Nat.reduceSub, Nat.reduceLeDiff, Nat.reduceEqDiff, Nat.zero_add, List.cons_append, List.nil_append, List.append_nil, if_true, if_false, ne_eq, not_true_eq_false]
          have he : wE L (lists ws) k r s = 0 := by rw [wE, if_pos h0, if_pos ⟨h1, h2, h3⟩]
          refine gc_val (hp1.trans hp) ?_
          rw [wV, he, if_pos rfl, fOf, rowOf_at hk]
          rfl
      · simp (maxSteps := 4000000) -implicitDefEqProofs -dsimp (disch := omega) only [↓AW_ops, ↓AW_seq, ↓AW_cond, ↓AW_ret, ↓AOps_nil, ↓AOps_pu, ↓AOps_guard, on_some, extK_same, guardB_tf, guardB_ff, skipS_some, condB_t, ↓then_normal, ↓then_ret, ↓Fin_ret, pval, rd_S, rd_C, put_S, resV, resL, chkd, bput, bgot, AV.cells?, splice, partA, fillA, eq_self, List.replicate_succ, List.replicate_zero, List.set_cons_zero, List.set_cons_succ, List.getElem?_cons_zero, List.getElem?_cons_succ, List.drop_zero, List.drop_succ_cons, List.drop_nil, List.take_zero, List.take_succ_cons, List.take_nil, Option.getD_some, Option.map_some, map_n, List.length_cons, List.length_nil, Nat.reduceAdd, Nat.reduceSub, Nat.reduceLeDiff, Nat.reduceEqDiff, Nat.zero_add, List.cons_append, List.nil_append, List.append_nil, if_true, if_false, Bool.false_eq_true, Bool.not_false, decide_false, ne_eq, not_true_eq_false, h2]
        have he : wE L (lists ws) k r s = 1 := by rw [wE, if_pos h0, if_neg (by simp [h2])]
        exact gc_val hp1 (by rw [wV, he]; rfl)
    · simp (maxSteps := 4000000) -implicitDefEqProofs -dsimp (disch := omega) only [↓AW_ops, ↓AW_seq, ↓AW_cond, ↓AW_ret, ↓AOps_nil, ↓AOps_pu, ↓AOps_guard, on_some, extK_same, guardB_tf, skipS_some, condB_t, ↓then_normal, ↓then_ret, ↓Fin_ret, pval, rd_S, rd_C, put_S, resV, resL, chkd, bput, bgot, AV.cells?, splice, partA, fillA, eq_self, List.replicate_succ, List.replicate_zero, List.set_cons_zero, List.set_cons_succ, List.getElem?_cons_zero, List.getElem?_cons_succ, List.drop_zero, List.drop_succ_cons, List.drop_nil, List.take_zero, List.take_succ_cons, List.take_nil, Option.getD_some, Option.map_some, map_n, List.length_cons, List.length_nil, Nat.reduceAdd, Nat.reduceSub, Nat.reduceLeDiff, Nat.reduceEqDiff, Nat.zero_add, List.cons_append, List.nil_append, List.append_nil, if_true, if_false, Bool.not_false, decide_false, ne_eq, not_true_eq_false, h1]
      have he : wE L (lists ws) k r s = 1 := by rw [wE, if_pos h0, if_neg (by simp [h1])]
      exact gc_val hp1 (by rw [wV, he]; rfl)
  · simp (maxSteps := 4000000) -implicitDefEqProofs -dsimp (disch := omega) only [↓AW_ops, ↓AW_seq, ↓AW_cond, ↓AW_ret, ↓AOps_nil, ↓AOps_pu, on_some, extK_same, condB_t, ↓then_normal, ↓then_ret, ↓Fin_ret, pval, rd_S, rd_C, put_S, resV, resL, chkd, bput, bgot, AV.cells?, splice, partA, fillA, eq_self, List.replicate_succ, List.replicate_zero, List.set_cons_zero, List.set_cons_succ, List.getElem?_cons_zero, List.getElem?_cons_succ, List.drop_zero, List.drop_succ_cons, List.drop_nil, List.take_zero, List.take_succ_cons, List.take_nil, Option.getD_some, Option.map_some, map_n, List.length_cons, List.length_nil, Nat.reduceAdd, Nat.reduceSub, Nat.reduceLeDiff, Nat.reduceEqDiff, Nat.zero_add, List.cons_append, List.nil_append, List.append_nil, bin_neq, if_true, if_false, decide_true, ne_eq, not_true_eq_false, not_false_eq_true, h0]
    have he : wE L (lists ws) o r s = oE L (lists ws) o := by rw [wE, if_neg h0]
    exact gc_val hp1 (by rw [wV, he, if_neg h0]; rfl)
end
end Go.Proofs.Ytmblehbjedpjoaa

namespace Go.Proofs.Ytmblehbjedpjoaa
open Go Go.Eng
/-- selion/selionlaw06.KnifeCalls [loop [3, 5, 9]] -/
def m3 : MFun := ⟨65, [2, 3], [.mov (.s 4)],
 .seq (.ops [⟨(some 2), some (.junk), none, false, .pu (.bnew (.s 0))⟩,
   ⟨(some 3), some (.junk), none, false, .pu (.bnew (.s 1))⟩,
   ⟨(some 4), some undefA, none, false, .pu (.mov (.c (.bool false)))⟩])
 (.seq (.seq (.ops [⟨(some 10), some undefA, none, false, .pu (.bget none 2 0 2 true)⟩,
   ⟨(some 11), some undefA, none, false, .call 13 [(.s 10)]⟩])
 (.cond (.s 11) (.seq (.ops [⟨(some 12), some undefA, none, false, .call 14 []⟩,
    ⟨(some 4), some undefA, none, false, .pu (.mov (.s 12))⟩])
  (.ret))
 (.skip)))
 (.seq (.ops [⟨(some 14), some undefA, none, false, .pu (.bget none 2 0 2 true)⟩,
   ⟨(some 15), some undefA, none, false, .pu (.bget none 3 0 2 true)⟩,
   ⟨(some 16), some undefA, none, false, .call 15 [(.s 14), (.s 15)]⟩,
   ⟨(some 13), some undefA, none, false, .pu (.mov (.s 16))⟩,
   ⟨(some 17), some undefA, none, false, .pu (.extr 0 (.s 13))⟩,
   ⟨(some 18), some undefA, none, false, .pu (.extr 1 (.s 13))⟩,
   ⟨(some 5), some undefA, none, false, .pu (.mov (.s 17))⟩,
   ⟨(some 6), some undefA, none, false, .pu (.mov (.s 18))⟩])
 (.seq (.ops [⟨(some 20), some undefA, none, false, .pu (.bget none 2 0 2 true)⟩,
   ⟨(some 21), some undefA, none, false, .pu (.bget none 3 0 2 true)⟩,
   ⟨(some 22), some undefA, none, false, .call 16 [(.s 20), (.s 21)]⟩,
   ⟨(some 19), some undefA, none, false, .pu (.mov (.s 22))⟩,
   ⟨(some 23), some undefA, none, false, .pu (.extr 0 (.s 19))⟩,
   ⟨(some 24), some undefA, none, false, .pu (.extr 1 (.s 19))⟩,
   ⟨(some 7), some undefA, none, false, .pu (.mov (.s 23))⟩,
   ⟨(some 8), some undefA, none, false, .pu (.mov (.s 24))⟩])
 (.seq (.seq (.ops [⟨(some 25), some undefA, none, false, .pu (.mov (.s 6))⟩,
   ⟨(some 26), some undefA, none, false, .pu (.mov (.s 8))⟩,
   ⟨(some 27), some undefA, none, false, .pu (.bin .neq (.s 25) (.s 26))⟩,
   ⟨(some 28), some undefA, none, false, .pu (.mov (.s 27))⟩,
   ⟨(some 29), some undefA, (some (28, false)), false, .pu (.mov (.s 5))⟩,
   ⟨(some 30), some undefA, (some (28, false)), false, .pu (.mov (.s 7))⟩,
   ⟨(some 31), some undefA, (some (28, false)), false, .call 17 [(.s 29), (.s 30)]⟩,
   ⟨(some 32), some undefA, (some (28, false)), false, .pu (.not (.s 31))⟩,
   ⟨(some 33), some undefA, none, false, .pu (.pick (.s 28) (.c (.bool true)) (.s 32))⟩])
 (.cond (.s 33) (.seq (.ops [⟨(some 4), some undefA, none, false, .pu (.mov (.c (.bool false)))⟩])
  (.ret))
 (.skip)))
 (.seq (.seq (.ops [⟨(some 9), some undefA, none, false, .pu (.mov (.c (.int .i64 0)))⟩])
 (.block 0 (.loop (.seq (.seq (.ops [⟨(some 34), some undefA, none, false, .pu (.mov (.s 9))⟩,
     ⟨(some 35), some undefA, none, false, .pu (.mov (.s 5))⟩,
     ⟨(some 36), some undefA, none, false, .pu (.len (.s 35))⟩,
     ⟨(some 37), some undefA, none, false, .pu (.bin .lss (.s 34) (.s 36))⟩])
   (.cond (.s 37) (.skip)
   (.exit 0)))
   (.seq (.block 1 (.seq (.ops [⟨(some 40), some undefA, none, false, .pu (.mov (.s 5))⟩,
      ⟨(some 41), some undefA, none, false, .pu (.mov (.s 9))⟩,
      ⟨(some 42), some undefA, none, false, .pu (.idx 2 (.s 40) (.s 41))⟩,
      ⟨(some 43), some undefA, none, false, .pu (.fad 1 (.s 42))⟩,
      ⟨(some 44), some undefA, none, true, .ld (.ld 1 false (.s 43))⟩,
      ⟨(some 45), some undefA, none, false, .pu (.bin .lss (.s 44) (.c (.int .i64 1)))⟩,
      ⟨(some 46), some undefA, none, false, .pu (.mov (.s 45))⟩,
      ⟨(some 47), some undefA, (some (46, false)), false, .pu (.badr none 3)⟩,
      ⟨(some 48), some undefA, (some (46, false)), false, .pu (.bget (some 47) 3 1 1 false)⟩,
      ⟨(some 49), some undefA, (some (46, false)), false, .pu (.bin .lss (.s 48) (.c (.int .i64 1)))⟩,
      ⟨(some 50), some undefA, none, false, .pu (.pick (.s 46) (.c (.bool true)) (.s 49))⟩,
      ⟨(some 51), some undefA, none, false, .pu (.mov (.s 50))⟩,
      ⟨(some 52), some undefA, (some (51, false)), false, .pu (.mov (.s 5))⟩,
      ⟨(some 53), some undefA, (some (51, false)), false, .call 18 [(.s 52)]⟩,
      ⟨(some 54), some undefA, (some (51, false)), false, .pu (.not (.s 53))⟩,
      ⟨(some 55), some undefA, none, false, .pu (.pick (.s 51) (.c (.bool true)) (.s 54))⟩,
      ⟨(some 56), some undefA, none, false, .pu (.mov (.s 55))⟩,
      ⟨(some 57), some undefA, (some (56, false)), false, .pu (.mov (.s 5))⟩,
      ⟨(some 58), some undefA, (some (56, false)), false, .pu (.mov (.s 9))⟩,
      ⟨(some 59), some undefA, (some (56, false)), false, .pu (.idx 2 (.s 57) (.s 58))⟩,
      ⟨(some 60), some undefA, (some (56, false)), true, .ld (.ld 2 true (.s 59))⟩,
      ⟨(some 61), some undefA, (some (56, false)), true, .pu (.bget none 3 0 2 true)⟩,
      ⟨(some 62), some undefA, (some (56, false)), false, .call 19 [(.s 60), (.s 61)]⟩,
      ⟨(some 63), some undefA, none, false, .pu (.pick (.s 56) (.c (.bool true)) (.s 62))⟩])
    (.cond (.s 63) (.seq (.ops [⟨(some 4), some undefA, none, false, .pu (.mov (.c (.bool false)))⟩])
     (.ret))
    (.skip))))
   (.ops [⟨(some 38), some undefA, none, false, .pu (.mov (.s 9))⟩,
     ⟨(some 39), some undefA, none, false, .pu (.bin .add (.s 38) (.c (.int .i64 1)))⟩,
     ⟨(some 9), some undefA, none, false, .pu (.mov (.s 39))⟩]))))))
 (.seq (.ops [⟨(some 64), some undefA, none, false, .call 14 []⟩,
   ⟨(some 4), some undefA, none, false, .pu (.mov (.s 64))⟩])
 (.ret)))))))⟩
/-- selion/selionlaw06.KnifeMarks [] -/
def m4 : MFun := ⟨88, [3, 4, 5, 7, 10, 13, 15], [.mov (.s 6)],
 .seq (.ops [⟨(some 3), some (.junk), none, false, .pu (.bnew (.s 0))⟩,
   ⟨(some 4), some (.junk), none, false, .pu (.bnew (.s 1))⟩,
   ⟨(some 5), some (.junk), none, false, .pu (.bnew (.s 2))⟩,
   ⟨(some 6), some undefA, none, false, .pu (.mov (.c (.bool false)))⟩])
 (.seq (.seq (.ops [⟨(some 17), some undefA, none, false, .pu (.bget none 3 0 2 true)⟩,
   ⟨(some 18), some undefA, none, false, .call 13 [(.s 17)]⟩])
 (.cond (.s 18) (.seq (.ops [⟨(some 19), some undefA, none, false, .call 14 []⟩,
    ⟨(some 6), some undefA, none, false, .pu (.mov (.s 19))⟩])
  (.ret))
 (.skip)))
 (.seq (.ops [⟨(some 21), some undefA, none, false, .pu (.bget none 3 0 2 true)⟩,
   ⟨(some 22), some undefA, none, false, .pu (.badr none 4)⟩,
   ⟨(some 23), some undefA, none, false, .pu (.bget (some 22) 4 0 1 false)⟩,
   ⟨(some 24), some undefA, none, false, .pu (.badr none 4)⟩,
   ⟨(some 25), some undefA, none, false, .pu (.bget (some 24) 4 1 2 true)⟩,
   ⟨(some 26), some undefA, none, false, .pu (.badr none 5)⟩,
   ⟨(some 27), some undefA, none, false, .pu (.bget (some 26) 5 0 1 false)⟩,
   ⟨(some 28), some undefA, none, false, .pu (.badr none 5)⟩,
   ⟨(some 29), some undefA, none, false, .pu (.bget (some 28) 5 1 1 false)⟩,
   ⟨(some 30), some undefA, none, false, .call 20 [(.s 21), (.s 23), (.s 25), (.s 27), (.s 29)]⟩,
   ⟨(some 20), some undefA, none, false, .pu (.mov (.s 30))⟩,
   ⟨(some 31), some undefA, none, false, .pu (.extr 0 (.s 20))⟩,
   ⟨(some 32), some undefA, none, false, .pu (.extr 1 (.s 20))⟩,
   ⟨(some 33), some undefA, none, false, .pu (.extr 2 (.s 20))⟩,
   ⟨(some 7), some (.junk), none, false, .pu (.bnew (.c (.agg [.int .i64 0, .int .i64 0])))⟩,
   ⟨(some 7), none, none, false, .pu (.bset none 7 0 2 (.s 31))⟩,
   ⟨(some 8), some undefA, none, false, .pu (.mov (.s 32))⟩,
   ⟨(some 9), some undefA, none, false, .pu (.mov (.s 33))⟩])
 (.seq (.ops [⟨(some 35), some undefA, none, false, .pu (.bget none 3 0 2 true)⟩,
   ⟨(some 36), some undefA, none, false, .pu (.badr none 4)⟩,
   ⟨(some 37), some undefA, none, false, .pu (.bget (some 36) 4 0 1 false)⟩,
   ⟨(some 38), some undefA, none, false, .pu (.badr none 4)⟩,
   ⟨(some 39), some undefA, none, false, .pu (.bget (some 38) 4 1 2 true)⟩,
   ⟨(some 40), some undefA, none, false, .pu (.badr none 5)⟩,
   ⟨(some 41), some undefA, none, false, .pu (.bget (some 40) 5 0 1 false)⟩,
   ⟨(some 42), some undefA, none, false, .pu (.badr none 5)⟩,
   ⟨(some 43), some undefA, none, false, .pu (.bget (some 42) 5 1 1 false)⟩,
   ⟨(some 44), some undefA, none, false, .call 21 [(.s 35), (.s 37), (.s 39), (.s 41), (.s 43)]⟩,
   ⟨(some 34), some undefA, none, false, .pu (.mov (.s 44))⟩,
   ⟨(some 45), some undefA, none, false, .pu (.extr 0 (.s 34))⟩,
   ⟨(some 46), some undefA, none, false, .pu (.extr 1 (.s 34))⟩,
   ⟨(some 47), some undefA, none, false, .pu (.extr 2 (.s 34))⟩,
   ⟨(some 10), some (.junk), none, false, .pu (.bnew (.c (.agg [.int .i64 0, .int .i64 0])))⟩,
   ⟨(some 10), none, none, false, .pu (.bset none 10 0 2 (.s 45))⟩,
   ⟨(some 11), some undefA, none, false, .pu (.mov (.s 46))⟩,
   ⟨(some 12), some undefA, none, false, .pu (.mov (.s 47))⟩])
 (.seq (.ops [⟨(some 49), some undefA, none, false, .pu (.bget none 3 0 2 true)⟩,
   ⟨(some 50), some undefA, none, false, .pu (.badr none 4)⟩,
   ⟨(some 51), some undefA, none, false, .pu (.bget (some 50) 4 0 1 false)⟩,
   ⟨(some 52), some undefA, none, false, .call 22 [(.s 49), (.s 51)]⟩,
   ⟨(some 48), some undefA, none, false, .pu (.mov (.s 52))⟩,
   ⟨(some 53), some undefA, none, false, .pu (.extr 0 (.s 48))⟩,
   ⟨(some 54), some undefA, none, false, .pu (.extr 1 (.s 48))⟩,
   ⟨(some 13), some (.junk), none, false, .pu (.bnew (.c (.agg [.int .i64 0, .int .i64 0])))⟩,
   ⟨(some 13), none, none, false, .pu (.bset none 13 0 2 (.s 53))⟩,
   ⟨(some 14), some undefA, none, false, .pu (.mov (.s 54))⟩])
 (.seq (.ops [⟨(some 56), some undefA, none, false, .pu (.bget none 3 0 2 true)⟩,
   ⟨(some 57), some undefA, none, false, .pu (.badr none 4)⟩,
   ⟨(some 58), some undefA, none, false, .pu (.bget (some 57) 4 0 1 false)⟩,
   ⟨(some 59), some undefA, none, false, .call 23 [(.s 56), (.s 58)]⟩,
   ⟨(some 55), some undefA, none, false, .pu (.mov (.s 59))⟩,
   ⟨(some 60), some undefA, none, false, .pu (.extr 0 (.s 55))⟩,
   ⟨(some 61), some undefA, none, false, .pu (.extr 1 (.s 55))⟩,
   ⟨(some 15), some (.junk), none, false, .pu (.bnew (.c (.agg [.int .i64 0, .int .i64 0])))⟩,
   ⟨(some 15), none, none, false, .pu (.bset none 15 0 2 (.s 60))⟩,
   ⟨(some 16), some undefA, none, false, .pu (.mov (.s 61))⟩])
 (.seq (.ops [⟨(some 62), some undefA, none, false, .pu (.bget none 7 0 2 true)⟩,
   ⟨(some 63), some undefA, none, false, .pu (.bget none 10 0 2 true)⟩,
   ⟨(some 64), some undefA, none, false, .pu (.eqs false [true, true] (.s 62) (.s 63))⟩,
   ⟨(some 65), some undefA, none, false, .pu (.mov (.s 64))⟩,
   ⟨(some 66), some undefA, (some (65, true)), false, .pu (.mov (.s 8))⟩,
   ⟨(some 67), some undefA, (some (65, true)), false, .pu (.mov (.s 11))⟩,
   ⟨(some 68), some undefA, (some (65, true)), false, .pu (.eqb false (.s 66) (.s 67))⟩,
   ⟨(some 69), some undefA, none, false, .pu (.pick (.s 65) (.s 68) (.c (.bool false)))⟩,
   ⟨(some 70), some undefA, none, false, .pu (.mov (.s 69))⟩,
   ⟨(some 71), some undefA, (some (70, true)), false, .pu (.mov (.s 9))⟩,
   ⟨(some 72), some undefA, (some (70, true)), false, .pu (.mov (.s 12))⟩,
   ⟨(some 73), some undefA, (some (70, true)), false, .pu (.bin .eql (.s 71) (.s 72))⟩,
   ⟨(some 74), some undefA, none, false, .pu (.pick (.s 70) (.s 73) (.c (.bool false)))⟩,
   ⟨(some 75), some undefA, none, false, .pu (.mov (.s 74))⟩,
   ⟨(some 76), some undefA, (some (75, true)), false, .pu (.bget none 13 0 2 true)⟩,
   ⟨(some 77), some undefA, (some (75, true)), false, .pu (.bget none 15 0 2 true)⟩,
   ⟨(some 78), some undefA, (some (75, true)), false, .pu (.eqs false [true, true] (.s 76) (.s 77))⟩,
   ⟨(some 79), some undefA, none, false, .pu (.pick (.s 75) (.s 78) (.c (.bool false)))⟩,
   ⟨(some 80), some undefA, none, false, .pu (.mov (.s 79))⟩,
   ⟨(some 81), some undefA, (some (80, true)), false, .pu (.mov (.s 14))⟩,
   ⟨(some 82), some undefA, (some (80, true)), false, .pu (.mov (.s 16))⟩,
   ⟨(some 83), some undefA, (some (80, true)), false, .pu (.bin .eql (.s 81) (.s 82))⟩,
   ⟨(some 84), some undefA, none, false, .pu (.pick (.s 80) (.s 83) (.c (.bool false)))⟩,
   ⟨(some 85), some undefA, none, false, .pu (.mov (.s 84))⟩,
   ⟨(some 86), some undefA, (some (85, true)), false, .call 14 []⟩,
   ⟨(some 87), some undefA, none, false, .pu (.pick (.s 85) (.s 86) (.c (.bool false)))⟩,
   ⟨(some 6), some undefA, none, false, .pu (.mov (.s 87))⟩])
 (.ret)))))))⟩
/-- selion/selionlaw06.KnifeWorths [] -/
def m5 : MFun := ⟨52, [2, 3, 5, 7], [.mov (.s 4)],
 .seq (.ops [⟨(some 2), some (.junk), none, false, .pu (.bnew (.s 0))⟩,
   ⟨(some 3), some (.junk), none, false, .pu (.bnew (.s 1))⟩,
   ⟨(some 4), some undefA, none, false, .pu (.mov (.c (.bool false)))⟩])
 (.seq (.seq (.ops [⟨(some 9), some undefA, none, false, .pu (.bget none 2 0 2 true)⟩,
   ⟨(some 10), some undefA, none, false, .call 13 [(.s 9)]⟩])
 (.cond (.s 10) (.seq (.ops [⟨(some 11), some undefA, none, false, .call 14 []⟩,
    ⟨(some 4), some undefA, none, false, .pu (.mov (.s 11))⟩])
  (.ret))
 (.skip)))
 (.seq (.ops [⟨(some 13), some undefA, none, false, .pu (.bget none 2 0 2 true)⟩,
   ⟨(some 14), some undefA, none, false, .pu (.badr none 3)⟩,
   ⟨(some 15), some undefA, none, false, .pu (.bget (some 14) 3 0 1 false)⟩,
   ⟨(some 16), some undefA, none, false, .pu (.badr none 3)⟩,
   ⟨(some 17), some undefA, none, false, .pu (.bget (some 16) 3 1 2 true)⟩,
   ⟨(some 18), some undefA, none, false, .pu (.badr none 3)⟩,
   ⟨(some 19), some undefA, none, false, .pu (.bget (some 18) 3 3 2 true)⟩,
   ⟨(some 20), some undefA, none, false, .call 24 [(.s 13), (.s 15), (.s 17), (.s 19)]⟩,
   ⟨(some 12), some undefA, none, false, .pu (.mov (.s 20))⟩,
   ⟨(some 21), some undefA, none, false, .pu (.extr 0 (.s 12))⟩,
   ⟨(some 22), some undefA, none, false, .pu (.extr 1 (.s 12))⟩,
   ⟨(some 5), some (.junk), none, false, .pu (.bnew (.c (.agg [.int .i64 0, .int .i64 0])))⟩,
   ⟨(some 5), none, none, false, .pu (.bset none 5 0 2 (.s 21))⟩,
   ⟨(some 6), some undefA, none, false, .pu (.mov (.s 22))⟩])
 (.seq (.ops [⟨(some 24), some undefA, none, false, .pu (.bget none 2 0 2 true)⟩,
   ⟨(some 25), some undefA, none, false, .pu (.badr none 3)⟩,
   ⟨(some 26), some undefA, none, false, .pu (.bget (some 25) 3 0 1 false)⟩,
   ⟨(some 27), some undefA, none, false, .pu (.badr none 3)⟩,
   ⟨(some 28), some undefA, none, false, .pu (.bget (some 27) 3 1 2 true)⟩,
   ⟨(some 29), some undefA, none, false, .pu (.badr none 3)⟩,
   ⟨(some 30), some undefA, none, false, .pu (.bget (some 29) 3 3 2 true)⟩,
   ⟨(some 31), some undefA, none, false, .call 25 [(.s 24), (.s 26), (.s 28), (.s 30)]⟩,
   ⟨(some 23), some undefA, none, false, .pu (.mov (.s 31))⟩,
   ⟨(some 32), some undefA, none, false, .pu (.extr 0 (.s 23))⟩,
   ⟨(some 33), some undefA, none, false, .pu (.extr 1 (.s 23))⟩,
   ⟨(some 7), some (.junk), none, false, .pu (.bnew (.c (.agg [.int .i64 0, .int .i64 0])))⟩,
   ⟨(some 7), none, none, false, .pu (.bset none 7 0 2 (.s 32))⟩,
   ⟨(some 8), some undefA, none, false, .pu (.mov (.s 33))⟩])
 (.seq (.ops [⟨(some 34), some undefA, none, false, .pu (.bget none 2 0 2 true)⟩,
   ⟨(some 35), some undefA, none, false, .call 26 [(.s 34)]⟩,
   ⟨(some 36), some undefA, none, false, .pu (.bget none 2 0 2 true)⟩,
   ⟨(some 37), some undefA, none, false, .call 27 [(.s 36)]⟩,
   ⟨(some 38), some undefA, none, false, .pu (.bin .eql (.s 35) (.s 37))⟩,
   ⟨(some 39), some undefA, none, false, .pu (.mov (.s 38))⟩,
   ⟨(some 40), some undefA, (some (39, true)), false, .pu (.bget none 5 0 2 true)⟩,
   ⟨(some 41), some undefA, (some (39, true)), false, .pu (.bget none 7 0 2 true)⟩,
   ⟨(some 42), some undefA, (some (39, true)), false, .pu (.eqs false [true, true] (.s 40) (.s 41))⟩,
   ⟨(some 43), some undefA, none, false, .pu (.pick (.s 39) (.s 42) (.c (.bool false)))⟩,
   ⟨(some 44), some undefA, none, false, .pu (.mov (.s 43))⟩,
   ⟨(some 45), some undefA, (some (44, true)), false, .pu (.mov (.s 6))⟩,
   ⟨(some 46), some undefA, (some (44, true)), false, .pu (.mov (.s 8))⟩,
   ⟨(some 47), some undefA, (some (44, true)), false, .pu (.bin .eql (.s 45) (.s 46))⟩,
   ⟨(some 48), some undefA, none, false, .pu (.pick (.s 44) (.s 47) (.c (.bool false)))⟩,
   ⟨(some 49), some undefA, none, false, .pu (.mov (.s 48))⟩,
   ⟨(some 50), some undefA, (some (49, true)), false, .call 14 []⟩,
   ⟨(some 51), some undefA, none, false, .pu (.pick (.s 49) (.s 50) (.c (.bool false)))⟩,
   ⟨(some 4), some undefA, none, false, .pu (.mov (.s 51))⟩])
 (.ret)))))⟩
theorem t5 : trF Try.prog [2, 3, 5, 7] [] Try.f5 = some m5 := by kernel_rfl
/-- selion/selionlaw06.KnifeEvens [] -/
def m6 : MFun := ⟨59, [1], [.mov (.s 2)],
 .seq (.ops [⟨(some 1), some (.junk), none, false, .pu (.bnew (.s 0))⟩,
   ⟨(some 2), some undefA, none, false, .pu (.mov (.c (.bool false)))⟩])
 (.seq (.seq (.ops [⟨(some 9), some undefA, none, false, .pu (.bget none 1 0 2 true)⟩,
   ⟨(some 10), some undefA, none, false, .call 13 [(.s 9)]⟩])
 (.cond (.s 10) (.seq (.ops [⟨(some 11), some undefA, none, false, .call 14 []⟩,
    ⟨(some 2), some undefA, none, false, .pu (.mov (.s 11))⟩])
  (.ret))
 (.skip)))
 (.seq (.ops [⟨(some 13), some undefA, none, false, .pu (.bget none 1 0 2 true)⟩,
   ⟨(some 14), some undefA, none, false, .call 28 [(.s 13)]⟩,
   ⟨(some 12), some undefA, none, false, .pu (.mov (.s 14))⟩,
   ⟨(some 15), some undefA, none, false, .pu (.extr 0 (.s 12))⟩,
   ⟨(some 16), some undefA, none, false, .pu (.extr 1 (.s 12))⟩,
   ⟨(some 3), some undefA, none, false, .pu (.mov (.s 15))⟩,
   ⟨(some 4), some undefA, none, false, .pu (.mov (.s 16))⟩])
 (.seq (.ops [⟨(some 18), some undefA, none, false, .pu (.bget none 1 0 2 true)⟩,
   ⟨(some 19), some undefA, none, false, .call 29 [(.s 18)]⟩,
   ⟨(some 17), some undefA, none, false, .pu (.mov (.s 19))⟩,
   ⟨(some 20), some undefA, none, false, .pu (.extr 0 (.s 17))⟩,
   ⟨(some 21), some undefA, none, false, .pu (.extr 1 (.s 17))⟩,
   ⟨(some 5), some undefA, none, false, .pu (.mov (.s 20))⟩,
   ⟨(some 6), some undefA, none, false, .pu (.mov (.s 21))⟩])
 (.seq (.seq (.ops [⟨(some 22), some undefA, none, false, .pu (.mov (.s 4))⟩,
   ⟨(some 23), some undefA, none, false, .pu (.mov (.s 6))⟩,
   ⟨(some 24), some undefA, none, false, .pu (.bin .neq (.s 22) (.s 23))⟩,
   ⟨(some 25), some undefA, none, false, .pu (.mov (.s 24))⟩,
   ⟨(some 26), some undefA, (some (25, false)), false, .pu (.mov (.s 3))⟩,
   ⟨(some 27), some undefA, (some (25, false)), false, .pu (.mov (.s 5))⟩,
   ⟨(some 28), some undefA, (some (25, false)), false, .call 30 [(.s 26), (.s 27)]⟩,
   ⟨(some 29), some undefA, (some (25, false)), false, .pu (.not (.s 28))⟩,
   ⟨(some 30), some undefA, none, false, .pu (.pick (.s 25) (.c (.bool true)) (.s 29))⟩])
 (.cond (.s 30) (.seq (.ops [⟨(some 2), some undefA, none, false, .pu (.mov (.c (.bool false)))⟩])
  (.ret))
 (.skip)))
 (.seq (.seq (.ops [⟨(some 31), some undefA, none, false, .pu (.mov (.s 4))⟩,
   ⟨(some 32), some undefA, none, false, .pu (.bin .neq (.s 31) (.c (.int .i64 0)))⟩])
 (.cond (.s 32) (.seq (.ops [⟨(some 33), some undefA, none, false, .call 14 []⟩,
    ⟨(some 2), some undefA, none, false, .pu (.mov (.s 33))⟩])
  (.ret))
 (.skip)))
 (.seq (.ops [⟨(some 35), some undefA, none, false, .pu (.bget none 1 0 2 true)⟩,
   ⟨(some 36), some undefA, none, false, .pu (.mov (.s 3))⟩,
   ⟨(some 37), some undefA, none, false, .call 31 [(.s 35), (.s 36)]⟩,
   ⟨(some 34), some undefA, none, false, .pu (.mov (.s 37))⟩,
   ⟨(some 38), some undefA, none, false, .pu (.extr 0 (.s 34))⟩,
   ⟨(some 39), some undefA, none, false, .pu (.extr 1 (.s 34))⟩,
   ⟨(some 7), some undefA, none, false, .pu (.mov (.s 38))⟩,
   ⟨(some 8), some undefA, none, false, .pu (.mov (.s 39))⟩])
 (.seq (.ops [⟨(some 40), some undefA, none, false, .pu (.mov (.s 8))⟩,
   ⟨(some 41), some undefA, none, false, .pu (.bin .eql (.s 40) (.c (.int .i64 0)))⟩,
   ⟨(some 42), some undefA, none, false, .pu (.mov (.s 41))⟩,
   ⟨(some 43), some undefA, (some (42, true)), false, .pu (.mov (.s 7))⟩,
   ⟨(some 44), some undefA, (some (42, true)), false, .pu (.len (.s 43))⟩,
   ⟨(some 45), some undefA, (some (42, true)), false, .pu (.bin .eql (.s 44) (.c (.int .i64 2)))⟩,
   ⟨(some 46), some undefA, none, false, .pu (.pick (.s 42) (.s 45) (.c (.bool false)))⟩,
   ⟨(some 47), some undefA, none, false, .pu (.mov (.s 46))⟩,
   ⟨(some 48), some undefA, (some (47, true)), true, .pu (.mov (.s 7))⟩,
   ⟨(some 49), some undefA, (some (47, true)), true, .pu (.idx 2 (.s 48) (.c (.int .i64 0)))⟩,
   ⟨(some 50), some undefA, (some (47, true)), true, .ld (.ld 2 true (.s 49))⟩,
   ⟨(some 51), some undefA, (some (47, true)), true, .pu (.mov (.s 7))⟩,
   ⟨(some 52), some undefA, (some (47, true)), true, .pu (.idx 2 (.s 51) (.c (.int .i64 1)))⟩,
   ⟨(some 53), some undefA, (some (47, true)), true, .ld (.ld 2 true (.s 52))⟩,
   ⟨(some 54), some undefA, (some (47, true)), false, .pu (.eqs false [true, true] (.s 50) (.s 53))⟩,
   ⟨(some 55), some undefA, none, false, .pu (.pick (.s 47) (.s 54) (.c (.bool false)))⟩,
   ⟨(some 56), some undefA, none, false, .pu (.mov (.s 55))⟩,
   ⟨(some 57), some undefA, (some (56, true)), false, .call 14 []⟩,
   ⟨(some 58), some undefA, none, false, .pu (.pick (.s 56) (.s 57) (.c (.bool false)))⟩,
   ⟨(some 2), some undefA, none, false, .pu (.mov (.s 58))⟩])
 (.ret))))))))⟩
/-- selion/selionlaw06.KnifeKnives [] -/
def m7 : MFun := ⟨54, [1], [.mov (.s 2)],
 .seq (.ops [⟨(some 1), some (.junk), none, false, .pu (.bnew (.s 0))⟩,
   ⟨(some 2), some undefA, none, false, .pu (.mov (.c (.bool false)))⟩])
 (.seq (.seq (.ops [⟨(some 9), some undefA, none, false, .pu (.bget none 1 0 2 true)⟩,
   ⟨(some 10), some undefA, none, false, .call 13 [(.s 9)]⟩])
 (.cond (.s 10) (.seq (.ops [⟨(some 11), some undefA, none, false, .call 14 []⟩,
    ⟨(some 2), some undefA, none, false, .pu (.mov (.s 11))⟩])
  (.ret))
 (.skip)))
 (.seq (.ops [⟨(some 13), some undefA, none, false, .pu (.bget none 1 0 2 true)⟩,
   ⟨(some 14), some undefA, none, false, .call 32 [(.s 13)]⟩,
   ⟨(some 12), some undefA, none, false, .pu (.mov (.s 14))⟩,
   ⟨(some 15), some undefA, none, false, .pu (.extr 0 (.s 12))⟩,
   ⟨(some 16), some undefA, none, false, .pu (.extr 1 (.s 12))⟩,
   ⟨(some 3), some undefA, none, false, .pu (.mov (.s 15))⟩,
   ⟨(some 4), some undefA, none, false, .pu (.mov (.s 16))⟩])
 (.seq (.ops [⟨(some 18), some undefA, none, false, .pu (.bget none 1 0 2 true)⟩,
   ⟨(some 19), some undefA, none, false, .call 33 [(.s 18)]⟩,
   ⟨(some 17), some undefA, none, false, .pu (.mov (.s 19))⟩,
   ⟨(some 20), some undefA, none, false, .pu (.extr 0 (.s 17))⟩,
   ⟨(some 21), some undefA, none, false, .pu (.extr 1 (.s 17))⟩,
   ⟨(some 5), some undefA, none, false, .pu (.mov (.s 20))⟩,
   ⟨(some 6), some undefA, none, false, .pu (.mov (.s 21))⟩])
 (.seq (.seq (.ops [⟨(some 22), some undefA, none, false, .pu (.mov (.s 4))⟩,
   ⟨(some 23), some undefA, none, false, .pu (.mov (.s 6))⟩,
   ⟨(some 24), some undefA, none, false, .pu (.bin .neq (.s 22) (.s 23))⟩,
   ⟨(some 25), some undefA, none, false, .pu (.mov (.s 24))⟩,
   ⟨(some 26), some undefA, (some (25, false)), false, .pu (.mov (.s 3))⟩,
   ⟨(some 27), some undefA, (some (25, false)), false, .pu (.mov (.s 5))⟩,
   ⟨(some 28), some undefA, (some (25, false)), false, .call 30 [(.s 26), (.s 27)]⟩,
   ⟨(some 29), some undefA, (some (25, false)), false, .pu (.not (.s 28))⟩,
   ⟨(some 30), some undefA, none, false, .pu (.pick (.s 25) (.c (.bool true)) (.s 29))⟩])
 (.cond (.s 30) (.seq (.ops [⟨(some 2), some undefA, none, false, .pu (.mov (.c (.bool false)))⟩])
  (.ret))
 (.skip)))
 (.seq (.seq (.ops [⟨(some 31), some undefA, none, false, .pu (.mov (.s 4))⟩,
   ⟨(some 32), some undefA, none, false, .pu (.bin .neq (.s 31) (.c (.int .i64 0)))⟩])
 (.cond (.s 32) (.seq (.ops [⟨(some 33), some undefA, none, false, .call 14 []⟩,
    ⟨(some 2), some undefA, none, false, .pu (.mov (.s 33))⟩])
  (.ret))
 (.skip)))
 (.seq (.ops [⟨(some 35), some undefA, none, false, .pu (.bget none 1 0 2 true)⟩,
   ⟨(some 36), some undefA, none, false, .pu (.mov (.s 3))⟩,
   ⟨(some 37), some undefA, none, false, .call 34 [(.s 35), (.s 36)]⟩,
   ⟨(some 34), some undefA, none, false, .pu (.mov (.s 37))⟩,
   ⟨(some 38), some undefA, none, false, .pu (.extr 0 (.s 34))⟩,
   ⟨(some 39), some undefA, none, false, .pu (.extr 1 (.s 34))⟩,
   ⟨(some 7), some undefA, none, false, .pu (.mov (.s 38))⟩,
   ⟨(some 8), some undefA, none, false, .pu (.mov (.s 39))⟩])
 (.seq (.ops [⟨(some 40), some undefA, none, false, .pu (.bget none 1 0 2 true)⟩,
   ⟨(some 41), some undefA, none, false, .pu (.mov (.s 3))⟩,
   ⟨(some 42), some undefA, none, false, .call 35 [(.s 40), (.s 41)]⟩,
   ⟨(some 43), some undefA, none, false, .pu (.bin .eql (.s 42) (.c (.int .i64 0)))⟩,
   ⟨(some 44), some undefA, none, false, .pu (.mov (.s 43))⟩,
   ⟨(some 45), some undefA, (some (44, true)), false, .pu (.mov (.s 8))⟩,
   ⟨(some 46), some undefA, (some (44, true)), false, .pu (.bin .eql (.s 45) (.c (.int .i64 0)))⟩,
   ⟨(some 47), some undefA, none, false, .pu (.pick (.s 44) (.s 46) (.c (.bool false)))⟩,
   ⟨(some 48), some undefA, none, false, .pu (.mov (.s 47))⟩,
   ⟨(some 49), some undefA, (some (48, true)), false, .pu (.mov (.s 7))⟩,
   ⟨(some 50), some undefA, none, false, .pu (.pick (.s 48) (.s 49) (.c (.bool false)))⟩,
   ⟨(some 51), some undefA, none, false, .pu (.mov (.s 50))⟩,
   ⟨(some 52), some undefA, (some (51, true)), false, .call 14 []⟩,
   ⟨(some 53), some undefA, none, false, .pu (.pick (.s 51) (.s 52) (.c (.bool false)))⟩,
   ⟨(some 2), some undefA, none, false, .pu (.mov (.s 53))⟩])
 (.ret))))))))⟩
/-- selion/selionlaw06.KnifeSums [loop [1, 2, 3, 7, 8, 9], loop [1, 2, 3, 7, 8, 10]] -/
def m8 : MFun := ⟨123, [3, 7, 11, 13], [.mov (.s 6)],
 .seq (.ops [⟨(some 3), some (.junk), none, false, .pu (.bnew (.s 0))⟩,
   ⟨(some 6), some undefA, none, false, .pu (.mov (.c (.bool false)))⟩])
 (.seq (.seq (.ops [⟨(some 15), some undefA, none, false, .pu (.bget none 3 0 2 true)⟩,
   ⟨(some 16), some undefA, none, false, .call 13 [(.s 15)]⟩,
   ⟨(some 17), some undefA, none, false, .pu (.mov (.s 16))⟩,
   ⟨(some 18), some undefA, (some (17, false)), false, .pu (.mov (.s 1))⟩,
   ⟨(some 19), some undefA, (some (17, false)), false, .pu (.len (.s 18))⟩,
   ⟨(some 20), some undefA, (some (17, false)), false, .pu (.bin .gtr (.s 19) (.c (.int .i64 100)))⟩,
   ⟨(some 21), some undefA, none, false, .pu (.pick (.s 17) (.c (.bool true)) (.s 20))⟩,
   ⟨(some 22), some undefA, none, false, .pu (.mov (.s 21))⟩,
   ⟨(some 23), some undefA, (some (22, false)), false, .pu (.bget none 3 0 2 true)⟩,
   ⟨(some 24), some undefA, (some (22, false)), false, .pu (.mov (.s 1))⟩,
   ⟨(some 25), some undefA, (some (22, false)), false, .call 35 [(.s 23), (.s 24)]⟩,
   ⟨(some 26), some undefA, (some (22, false)), false, .pu (.bin .neq (.s 25) (.c (.int .i64 0)))⟩,
   ⟨(some 27), some undefA, none, false, .pu (.pick (.s 22) (.c (.bool true)) (.s 26))⟩,
   ⟨(some 28), some undefA, none, false, .pu (.mov (.s 27))⟩,
   ⟨(some 29), some undefA, (some (28, false)), false, .pu (.mov (.s 2))⟩,
   ⟨(some 30), some undefA, (some (28, false)), false, .pu (.bin .lss (.s 29) (.c (.int .i64 0)))⟩,
   ⟨(some 31), some undefA, none, false, .pu (.pick (.s 28) (.c (.bool true)) (.s 30))⟩,
   ⟨(some 32), some undefA, none, false, .pu (.mov (.s 31))⟩,
   ⟨(some 33), some undefA, (some (32, false)), false, .pu (.mov (.s 2))⟩,
   ⟨(some 34), some undefA, (some (32, false)), false, .pu (.badr none 3)⟩,
   ⟨(some 35), some undefA, (some (32, false)), false, .pu (.bget (some 34) 3 1 1 false)⟩,
   ⟨(some 36), some undefA, (some (32, false)), false, .pu (.len (.s 35))⟩,
   ⟨(some 37), some undefA, (some (32, false)), false, .pu (.bin .geq (.s 33) (.s 36))⟩,
   ⟨(some 38), some undefA, none, false, .pu (.pick (.s 32) (.c (.bool true)) (.s 37))⟩])
 (.cond (.s 38) (.seq (.ops [⟨(some 39), some undefA, none, false, .call 14 []⟩,
    ⟨(some 6), some undefA, none, false, .pu (.mov (.s 39))⟩])
  (.ret))
 (.skip)))
 (.seq (.ops [⟨(some 40), some undefA, none, false, .call 36 [(.c (.int .i64 0))]⟩,
   ⟨(some 7), some (.junk), none, false, .pu (.bnew (.c (.agg [.int .i64 0, .int .i64 0])))⟩,
   ⟨(some 7), none, none, false, .pu (.bset none 7 0 2 (.s 40))⟩,
   ⟨(some 8), some undefA, none, false, .pu (.mov (.c (.int .i64 0)))⟩])
 (.seq (.seq (.ops [⟨(some 9), some undefA, none, false, .pu (.mov (.c (.int .i64 0)))⟩])
 (.block 0 (.loop (.seq (.seq (.ops [⟨(some 41), some undefA, none, false, .pu (.mov (.s 9))⟩,
     ⟨(some 42), some undefA, none, false, .pu (.badr none 3)⟩,
     ⟨(some 43), some undefA, none, false, .pu (.bget (some 42) 3 0 1 false)⟩,
     ⟨(some 44), some undefA, none, false, .pu (.len (.s 43))⟩,
     ⟨(some 45), some undefA, none, false, .pu (.bin .lss (.s 41) (.s 44))⟩])
   (.cond (.s 45) (.skip)
   (.exit 0)))
   (.seq (.block 1 (.ops [⟨(some 48), some undefA, none, false, .pu (.mov (.s 8))⟩,
      ⟨(some 49), some undefA, none, false, .pu (.badr none 3)⟩,
      ⟨(some 50), some undefA, none, false, .pu (.bget (some 49) 3 0 1 false)⟩,
      ⟨(some 51), some undefA, none, false, .pu (.mov (.s 9))⟩,
      ⟨(some 52), some undefA, none, false, .pu (.idx 1 (.s 50) (.s 51))⟩,
      ⟨(some 53), some undefA, none, false, .ld (.ld 1 false (.s 52))⟩,
      ⟨(some 54), some undefA, none, false, .pu (.bin .add (.s 48) (.s 53))⟩,
      ⟨(some 8), some undefA, none, false, .pu (.mov (.s 54))⟩]))
   (.ops [⟨(some 46), some undefA, none, false, .pu (.mov (.s 9))⟩,
     ⟨(some 47), some undefA, none, false, .pu (.bin .add (.s 46) (.c (.int .i64 1)))⟩,
     ⟨(some 9), some undefA, none, false, .pu (.mov (.s 47))⟩]))))))
 (.seq (.seq (.ops [⟨(some 10), some undefA, none, false, .pu (.mov (.c (.int .i64 0)))⟩])
 (.block 2 (.loop (.seq (.seq (.ops [⟨(some 55), some undefA, none, false, .pu (.mov (.s 10))⟩,
     ⟨(some 56), some undefA, none, false, .pu (.mov (.s 1))⟩,
     ⟨(some 57), some undefA, none, false, .pu (.len (.s 56))⟩,
     ⟨(some 58), some undefA, none, false, .pu (.bin .lss (.s 55) (.s 57))⟩])
   (.cond (.s 58) (.skip)
   (.exit 2)))
   (.seq (.block 3 (.seq (.ops [⟨(some 62), some undefA, none, true, .pu (.bget none 3 0 2 true)⟩,
      ⟨(some 63), some undefA, none, true, .pu (.mov (.s 2))⟩,
      ⟨(some 64), some undefA, none, true, .pu (.mov (.s 1))⟩,
      ⟨(some 65), some undefA, none, true, .pu (.mov (.s 10))⟩,
      ⟨(some 66), some undefA, none, true, .pu (.idx 5 (.s 64) (.s 65))⟩,
      ⟨(some 67), some undefA, none, true, .pu (.fad 1 (.s 66))⟩,
      ⟨(some 68), some undefA, none, true, .ld (.ld 2 true (.s 67))⟩,
      ⟨(some 69), some undefA, none, true, .pu (.mov (.s 1))⟩,
      ⟨(some 70), some undefA, none, true, .pu (.mov (.s 10))⟩,
      ⟨(some 71), some undefA, none, true, .pu (.idx 5 (.s 69) (.s 70))⟩,
      ⟨(some 72), some undefA, none, true, .pu (.fad 3 (.s 71))⟩,
      ⟨(some 73), some undefA, none, true, .ld (.ld 2 true (.s 72))⟩,
      ⟨(some 74), some undefA, none, false, .call 24 [(.s 62), (.s 63), (.s 68), (.s 73)]⟩,
      ⟨(some 61), some undefA, none, false, .pu (.mov (.s 74))⟩,
      ⟨(some 75), some undefA, none, false, .pu (.extr 0 (.s 61))⟩,
      ⟨(some 76), some undefA, none, false, .pu (.extr 1 (.s 61))⟩,
      ⟨(some 11), some (.junk), none, true, .pu (.bnew (.c (.agg [.int .i64 0, .int .i64 0])))⟩,
      ⟨(some 11), none, none, false, .pu (.bset none 11 0 2 (.s 75))⟩,
      ⟨(some 12), some undefA, none, false, .pu (.mov (.s 76))⟩])
    (.seq (.seq (.ops [⟨(some 77), some undefA, none, false, .pu (.mov (.s 12))⟩,
      ⟨(some 78), some undefA, none, false, .pu (.bin .neq (.s 77) (.c (.int .i64 0)))⟩,
      ⟨(some 79), some undefA, none, false, .pu (.mov (.s 78))⟩,
      ⟨(some 80), some undefA, (some (79, false)), false, .pu (.badr none 11)⟩,
      ⟨(some 81), some undefA, (some (79, false)), false, .pu (.bget (some 80) 11 1 1 false)⟩,
      ⟨(some 82), some undefA, (some (79, false)), false, .pu (.bin .lss (.s 81) (.c (.int .i64 1)))⟩,
      ⟨(some 83), some undefA, none, false, .pu (.pick (.s 79) (.c (.bool true)) (.s 82))⟩,
      ⟨(some 84), some undefA, none, false, .pu (.mov (.s 83))⟩,
      ⟨(some 85), some undefA, (some (84, false)), false, .pu (.badr none 7)⟩,
      ⟨(some 86), some undefA, (some (84, false)), false, .pu (.bget (some 85) 7 1 1 false)⟩,
      ⟨(some 87), some undefA, (some (84, false)), false, .pu (.bin .lss (.s 86) (.c (.int .i64 1)))⟩,
      ⟨(some 88), some undefA, none, false, .pu (.pick (.s 84) (.c (.bool true)) (.s 87))⟩,
      ⟨(some 89), some undefA, none, false, .pu (.mov (.s 88))⟩,
      ⟨(some 90), some undefA, (some (89, false)), false, .pu (.bget none 11 0 2 true)⟩,
      ⟨(some 91), some undefA, (some (89, false)), false, .pu (.bget none 7 0 2 true)⟩,
      ⟨(some 92), some undefA, (some (89, false)), false, .ha (.blds 2 2 [.int .i64 0, .int .i64 0] [(0, 2, (.s 90)), (2, 2, (.s 91))])⟩,
      ⟨(some 93), some undefA, (some (89, false)), false, .call 18 [(.s 92)]⟩,
      ⟨(some 94), some undefA, (some (89, false)), false, .pu (.not (.s 93))⟩,
      ⟨(some 95), some undefA, none, false, .pu (.pick (.s 89) (.c (.bool true)) (.s 94))⟩,
      ⟨(some 96), some undefA, none, false, .pu (.mov (.s 95))⟩,
      ⟨(some 97), some undefA, (some (96, false)), false, .pu (.badr none 11)⟩,
      ⟨(some 98), some undefA, (some (96, false)), false, .pu (.bget (some 97) 11 0 1 false)⟩,
      ⟨(some 99), some undefA, (some (96, false)), false, .pu (.bin .lss (.s 98) (.c (.int .i64 0)))⟩,
      ⟨(some 100), some undefA, none, false, .pu (.pick (.s 96) (.c (.bool true)) (.s 99))⟩])
    (.cond (.s 100) (.seq (.ops [⟨(some 6), some undefA, none, false, .pu (.mov (.c (.bool false)))⟩])
     (.ret))
    (.skip)))
    (.ops [⟨(some 101), some undefA, none, false, .pu (.bget none 7 0 2 true)⟩,
      ⟨(some 102), some undefA, none, false, .pu (.bget none 11 0 2 true)⟩,
      ⟨(some 103), some undefA, none, false, .call 37 [(.s 101), (.s 102)]⟩,
      ⟨(some 7), none, none, false, .pu (.bset none 7 0 2 (.s 103))⟩]))))
   (.ops [⟨(some 59), some undefA, none, false, .pu (.mov (.s 10))⟩,
     ⟨(some 60), some undefA, none, false, .pu (.bin .add (.s 59) (.c (.int .i64 1)))⟩,
     ⟨(some 10), some undefA, none, false, .pu (.mov (.s 60))⟩]))))))
 (.seq (.ops [⟨(some 105), some undefA, none, false, .pu (.bget none 3 0 2 true)⟩,
   ⟨(some 106), some undefA, none, false, .pu (.mov (.s 2))⟩,
   ⟨(some 107), some undefA, none, false, .call 36 [(.c (.int .i64 0))]⟩,
   ⟨(some 108), some undefA, none, false, .pu (.mov (.s 8))⟩,
   ⟨(some 109), some undefA, none, false, .call 36 [(.s 108)]⟩,
   ⟨(some 110), some undefA, none, false, .call 24 [(.s 105), (.s 106), (.s 107), (.s 109)]⟩,
   ⟨(some 104), some undefA, none, false, .pu (.mov (.s 110))⟩,
   ⟨(some 111), some undefA, none, false, .pu (.extr 0 (.s 104))⟩,
   ⟨(some 112), some undefA, none, false, .pu (.extr 1 (.s 104))⟩,
   ⟨(some 13), some (.junk), none, false, .pu (.bnew (.c (.agg [.int .i64 0, .int .i64 0])))⟩,
   ⟨(some 13), none, none, false, .pu (.bset none 13 0 2 (.s 111))⟩,
   ⟨(some 14), some undefA, none, false, .pu (.mov (.s 112))⟩])
 (.seq (.ops [⟨(some 113), some undefA, none, false, .pu (.mov (.s 14))⟩,
   ⟨(some 114), some undefA, none, false, .pu (.bin .eql (.s 113) (.c (.int .i64 0)))⟩,
   ⟨(some 115), some undefA, none, false, .pu (.mov (.s 114))⟩,
   ⟨(some 116), some undefA, (some (115, true)), false, .pu (.bget none 7 0 2 true)⟩,
   ⟨(some 117), some undefA, (some (115, true)), false, .pu (.bget none 13 0 2 true)⟩,
   ⟨(some 118), some undefA, (some (115, true)), false, .pu (.eqs false [true, true] (.s 116) (.s 117))⟩,
   ⟨(some 119), some undefA, none, false, .pu (.pick (.s 115) (.s 118) (.c (.bool false)))⟩,
   ⟨(some 120), some undefA, none, false, .pu (.mov (.s 119))⟩,
   ⟨(some 121), some undefA, (some (120, true)), false, .call 14 []⟩,
   ⟨(some 122), some undefA, none, false, .pu (.pick (.s 120) (.s 121) (.c (.bool false)))⟩,
   ⟨(some 6), some undefA, none, false, .pu (.mov (.s 122))⟩])
 (.ret)))))))⟩
end Go.Proofs.Ytmblehbjedpjoaa

namespace Go.Proofs.Ytmblehbjedpjoaa
open Go Go.Eng
section
variable {L : List Int} {ws : List (AV × List Int)} {x y : AV} {A : AHeap}
def longK (L : List Int) (ws : List (AV × List Int)) : Prop := ((100 : Int) < L.length ∨ (100 : Int) < ws.length) ∨ ∃ w ∈ ws, (100 : Int) < w.2.length
instance (L : List Int) (ws : List (AV × List Int)) : Decidable (longK L ws) := by unfold longK; exact inferInstance
theorem Sz_of (h : ¬ longK L ws) : Sz L ws := by
  refine ⟨?_, ?_, fun w hw => ?_⟩
  · have : ¬ (100 : Int) < L.length := fun h1 => h (.inl (.inl h1))
    omega
  · have : ¬ (100 : Int) < ws.length := fun h1 => h (.inl (.inr h1))
    omega
  · have : ¬ (100 : Int) < w.2.length := fun h1 => h (.inr ⟨w, hw, h1⟩)
    omega
theorem c_Long (hL : L1 A x L) (hV : LL A y ws) (hl : ws.length ≤ 9223372036854775807) : ACalls Try.prog 13 [.agg [x, y]] A (B (decide (longK L ws))) A := by
  refine acalls hmix Try.func13 (by kernel_rfl) t13 1 rfl (by decide) ?_
  by_cases h1 : (100 : Int) < L.length
  · dsimp only [m13]
    simp (maxSteps := 4000000) -implicitDefEqProofs -dsimp (disch := omega) only [↓AW_ops, ↓AW_seq, ↓AW_cond, ↓AW_ret, ↓AOps_nil, ↓AOps_pu, ↓AOps_guard, on_some, guardB_tf, skipS_some, condB_t, ↓then_normal, ↓then_ret, ↓Fin_ret, pval, rd_S, rd_C, put_S, resV, resL, chkd, isAdr, bgot, AV.cells?, partA, eq_self, List.replicate_succ, List.replicate_zero, List.set_cons_zero, List.set_cons_succ, List.getElem?_cons_zero, List.getElem?_cons_succ, List.drop_zero, List.take_zero, List.take_succ_cons, Option.getD_some, List.length_cons, List.length_nil, Nat.reduceAdd, Nat.reduceSub, Nat.reduceLeDiff, Nat.zero_add, List.cons_append, List.nil_append, bin_gtr, if_true, if_false, Bool.false_eq_true, decide_true, hL.len, h1]
    exact gc_same (by rw [decide_eq_true (show longK L ws from .inl (.inl h1))])
  by_cases h2 : (100 : Int) < ws.length
  · dsimp only [m13]
    simp (maxSteps := 4000000) -implicitDefEqProofs -dsimp (disch := omega) only [↓AW_ops, ↓AW_seq, ↓AW_cond, ↓AW_ret, ↓AOps_nil, ↓AOps_pu, ↓AOps_guard, on_some, guardB_ff, condB_t, ↓then_normal, ↓then_ret, ↓Fin_ret, pval, rd_S, rd_C, put_S, resV, resL, chkd, isAdr, bgot, AV.cells?, partA, eq_self, List.replicate_succ, List.replicate_zero, List.set_cons_zero, List.set_cons_succ, List.getElem?_cons_zero, List.getElem?_cons_succ, List.drop_zero, List.drop_succ_cons, List.take_zero, List.take_succ_cons, List.take_nil, Option.getD_some, List.length_cons, List.length_nil, Nat.reduceAdd, Nat.reduceSub, Nat.reduceLeDiff, Nat.zero_add, List.cons_append, List.nil_append, bin_gtr, if_true, if_false, Bool.false_eq_true, decide_true, decide_false, hL.len, h1, hV.ls.len, h2]
    exact gc_same (by rw [decide_eq_true (show longK L ws from .inl (.inr h2))])
  dsimp only [m13]
  simp (maxSteps := 4000000) -implicitDefEqProofs -dsimp (disch := omega) only [↓AW_skip, ↓AW_ops, ↓AW_seq, ↓AW_cond, ↓AW_block, ↓AOps_nil, ↓AOps_pu, ↓AOps_guard, on_some, guardB_ff, condB_f, ↓then_normal, pval, rd_S, rd_C, put_S, ↓AW_toLoop, chkd, isAdr, bgot, AV.cells?, partA, eq_self, List.replicate_succ, List.replicate_zero, List.set_cons_zero, List.set_cons_succ, List.getElem?_cons_zero, List.getElem?_cons_succ, List.drop_zero, List.drop_succ_cons, List.take_zero, List.take_succ_cons, List.take_nil, Option.getD_some, List.length_cons, List.length_nil, Nat.reduceAdd, Nat.reduceSub, Nat.reduceLeDiff, Nat.zero_add, List.cons_append, List.nil_append, bin_gtr, if_true, if_false, Bool.false_eq_true, decide_false, hL.len, h1, hV.ls.len, h2]
  refine LoopK.by 28 (fun i : Nat => i ≤ ws.length ∧ ∀ w ∈ ws.take i, ¬ (100 : Int) < w.2.length) (fun i => [(1, .agg [x, y]), (3, I i)]) (fun _ => A) (fun i => ws.length - i) 0 ⟨by omega, by simp⟩ rfl (by simp [Has, rd_s]) rfl ?_
  rintro i ⟨hi, he⟩
  by_cases hlt : i < ws.length
  · obtain ⟨w, hz⟩ : ∃ z, ws[i]? = some z := ⟨_, List.getElem?_eq_getElem hlt⟩
    have hlt' : (i : Int) < ws.length := by omega
    have hm := List.mem_of_getElem? hz
    by_cases h : (100 : Int) < w.2.length
    · simp (maxSteps := 4000000) -implicitDefEqProofs -dsimp (disch := omega) only [↓AW_skip, ↓AW_ops, ↓AW_seq, ↓AW_cond, ↓AW_block, ↓AW_ret, ↓AOps_nil, ↓AOps_pu, ↓AOps_ld, on_some, condB_t, ↓then_normal, ↓then_ret, ↓inBlock_ret, ↓Fin_ret, pval, lval, rd_S, rd_C, put_S, resV, resL, chkd, isAdr, bgot, AV.cells?, partA, eq_self, mk, List.foldl_cons, List.foldl_nil, List.replicate_succ, List.replicate_zero, List.set_cons_zero, List.set_cons_succ, List.getElem?_cons_zero, List.getElem?_cons_succ, List.drop_zero, List.drop_succ_cons, List.take_succ_cons, List.take_nil, Option.getD_some, List.length_cons, List.length_nil, Nat.reduceAdd, Nat.reduceLeDiff, Nat.zero_add, bin_lss, bin_gtr, if_true, if_false, Bool.false_eq_true, decide_true, hlt', hV.ls.len, hV.ls.idx hlt, hV.ls.ld0 hz 1 false (by decide), e0, (hV.inn w hm).len, h]
      exact gc_same (by rw [decide_eq_true (show longK L ws from .inr ⟨w, hm, h⟩)])
    · simp (maxSteps := 4000000) -implicitDefEqProofs -dsimp (disch := omega) only [↓AW_skip, ↓AW_ops, ↓AW_seq, ↓AW_cond, ↓AW_block, ↓AOps_nil, ↓AOps_pu, ↓AOps_ld, on_some, condB_t, condB_f, ↓then_normal, ↓inBlock_normal, pval, lval, rd_S, rd_C, put_S, chkd, isAdr, bgot, AV.cells?, partA, eq_self, mk, List.foldl_cons, List.foldl_nil, List.replicate_succ, List.replicate_zero, List.set_cons_zero, List.set_cons_succ, List.getElem?_cons_zero, List.getElem?_cons_succ, List.drop_zero, List.drop_succ_cons, List.take_succ_cons, List.take_nil, Option.getD_some, List.length_cons, List.length_nil, Nat.reduceAdd, Nat.reduceLeDiff, Nat.zero_add, bin_add, bin_lss, bin_gtr, w64, if_true, if_false, Bool.false_eq_true, decide_true, decide_false, true_and, hlt', hV.ls.len, hV.ls.idx hlt, hV.ls.ld0 hz 1 false (by decide), e0, (hV.inn w hm).len, h]
      refine ⟨i + 1, ⟨hlt, fun u hu => ?_⟩, by simp [Has, rd_s], by omega⟩
      rcases (take_mem hz).1 hu with hu | rfl
      · exact he u hu
      · exact h
  · have hlt' : ¬ ((i : Int) < ws.length) := by omega
    simp (maxSteps := 4000000) -implicitDefEqProofs -dsimp (disch := omega) only [↓AW_ops, ↓AW_seq, ↓AW_cond, ↓AW_exit, ↓AW_ret, ↓AOps_nil, ↓AOps_pu, on_some, condB_f, ↓then_normal, ↓then_exit, ↓inBlock_exit, ↓Fin_ret, pval, rd_S, rd_C, put_S, resV, resL, chkd, isAdr, bgot, AV.cells?, partA, eq_self, mk, List.foldl_cons, List.foldl_nil, List.replicate_succ, List.replicate_zero, List.set_cons_zero, List.set_cons_succ, List.getElem?_cons_zero, List.getElem?_cons_succ, List.drop_zero, List.drop_succ_cons, List.take_succ_cons, List.take_nil, Option.getD_some, List.length_cons, List.length_nil, Nat.reduceAdd, Nat.reduceLeDiff, Nat.zero_add, bin_lss, if_true, if_false, Bool.false_eq_true, decide_false, hlt', hV.ls.len]
    rw [List.take_of_length_le (by omega)] at he
    refine gc_same ?_
    rw [decide_eq_false]
    rintro ((h | h) | ⟨w, hw, h⟩)
    · exact h1 h
    · exact h2 h
    · exact he w hw h
theorem wV_agg (V : List (List Int)) (o : Int) (r s : Int × Int) : ∃ a b, wV L V o r s = .agg [I a, I b] := by
  unfold wV; split
  · exact ⟨_, _, rfl⟩
  · exact ⟨_, _, rfl⟩
theorem s5 (hL : L1 A x L) (hV : LL A y ws) (hl : ws.length ≤ 9223372036854775807) (o a b c d : Int) (ha : W a) (hc : W c) : ACalls Try.prog 5 [.agg [x, y], .agg [I o, I a, I b, I c, I d]] A (B true) A := by
  refine acalls hmix Try.func5 (by kernel_rfl) t5 2 rfl (by decide) ?_
  dsimp only [m5]
  simp (maxSteps := 4000000) -implicitDefEqProofs -dsimp (disch := omega) only [↓AW_ops, ↓AW_seq, ↓AOps_nil, ↓AOps_pu, ↓AOps_call, on_some, ↓then_normal, pval, rd_S, rd_C, put_S, chkd, bgot, AV.cells?, partA, eq_self, List.replicate_succ, List.replicate_zero, List.set_cons_zero, List.set_cons_succ, List.getElem?_cons_zero, List.getElem?_cons_succ, List.drop_zero, List.take_succ_cons, List.take_nil, Option.getD_some, map_c, map_n, List.length_cons, List.length_nil, Nat.reduceAdd, Nat.reduceSub, Nat.reduceLeDiff, Nat.reduceEqDiff, Nat.zero_add, List.cons_append, List.nil_append, if_true, if_false]
  refine CallK.of (c_Long hL hV hl) ?_
  by_cases h : longK L ws
  · simp (maxSteps := 4000000) -implicitDefEqProofs -dsimp (disch := omega) only [↓AW_ops, ↓AW_seq, ↓AW_cond, ↓AOps_nil, ↓AOps_call, extK_same, condB_t, ↓then_normal, rd_S, put_S, List.replicate_succ, List.replicate_zero, List.set_cons_zero, List.set_cons_succ, List.getElem?_cons_zero, List.getElem?_cons_succ, Option.getD_some, map_n, Nat.reduceSub, List.cons_append, List.nil_append, decide_true, h]
    refine CallK.of (known A) ?_
    simp (maxSteps := 4000000) -implicitDefEqProofs -dsimp (disch := omega) only [↓AW_ret, ↓AOps_nil, ↓AOps_pu, on_some, extK_same, ↓then_normal, ↓then_ret, ↓Fin_ret, pval, rd_S, put_S, resV, resL, List.replicate_succ, List.replicate_zero, List.set_cons_zero, List.set_cons_succ, List.getElem?_cons_zero, List.getElem?_cons_succ, Option.getD_some, Nat.reduceSub, List.cons_append, List.nil_append]
    exact gc_same rfl
  · have hs := Sz_of h
    simp (maxSteps := 4000000) -implicitDefEqProofs -dsimp (disch := omega) only [↓AW_skip, ↓AW_ops, ↓AW_seq, ↓AW_cond, ↓AOps_nil, ↓AOps_pu, ↓AOps_call, on_some, extK_same, condB_f, ↓then_normal, pval, rd_S, put_S, chkd, isAdr, bgot, AV.cells?, partA, eq_self, List.replicate_succ, List.replicate_zero, List.set_cons_zero, List.set_cons_succ, List.getElem?_cons_zero, List.getElem?_cons_succ, List.drop_zero, List.drop_succ_cons, List.take_zero, List.take_succ_cons, List.take_nil, Option.getD_some, map_c, map_n, List.length_cons, List.length_nil, Nat.reduceAdd, Nat.reduceSub, Nat.reduceLeDiff, Nat.reduceEqDiff, Nat.zero_add, List.cons_append, List.nil_append, if_true, if_false, Bool.false_eq_true, decide_false, h]
    obtain ⟨p, q, hpq⟩ := wV_agg (L := L) (lists ws) o (a, b) (c, d)
    have h24 := s24 hL hV hs o (a, b) (c, d) ha hc
    have h25 := s25 hL hV hs o (a, b) (c, d) ha hc
    rw [hpq] at h24 h25
    refine CallK.of h24 ?_
    simp (maxSteps := 4000000) -implicitDefEqProofs -dsimp (disch := omega) only [↓AW_ops, ↓AW_seq, ↓AOps_nil, ↓AOps_pu, ↓AOps_call, on_some, extK_same, ↓then_normal, pval, rd_S, rd_C, put_S, chkd, isAdr, bput, bgot, AV.cells?, splice, partA, eq_self, List.replicate_succ, List.replicate_zero, List.set_cons_zero, List.set_cons_succ, List.getElem?_cons_zero, List.getElem?_cons_succ, List.drop_zero, List.drop_succ_cons, List.drop_nil, List.take_zero, List.take_succ_cons, List.take_nil, Option.getD_some, map_c, map_n, List.length_cons, List.length_nil, Nat.reduceAdd, Nat.reduceSub, Nat.reduceLeDiff, Nat.reduceEqDiff, Nat.zero_add, List.cons_append, List.nil_append, List.append_nil, if_true, if_false, Bool.false_eq_true, ne_eq, not_true_eq_false]
    refine CallK.of h25 ?_
    simp (maxSteps := 4000000) -implicitDefEqProofs -dsimp (disch := omega) only [↓AW_ops, ↓AW_seq, ↓AOps_nil, ↓AOps_pu, ↓AOps_call, on_some, extK_same, ↓then_normal, pval, rd_S, rd_C, put_S, chkd, bput, bgot, AV.cells?, splice, partA, eq_self, List.replicate_succ, List.replicate_zero, List.set_cons_zero, List.set_cons_succ, List.getElem?_cons_zero, List.getElem?_cons_succ, List.drop_zero, List.drop_succ_cons, List.drop_nil, List.take_zero, List.take_succ_cons, List.take_nil, Option.getD_some, map_c, map_n, List.length_cons, List.length_nil, Nat.reduceAdd, Nat.reduceSub, Nat.reduceLeDiff, Nat.reduceEqDiff, Nat.zero_add, List.cons_append, List.nil_append, List.append_nil, if_true, if_false, ne_eq, not_true_eq_false]
    refine CallK.of (s26 hL hV hs.l hs.v hs.w) ?_
    simp (maxSteps := 4000000) -implicitDefEqProofs -dsimp (disch := omega) only [↓AOps_pu, ↓AOps_call, on_some, extK_same, pval, rd_S, put_S, chkd, bgot, partA, eq_self, List.replicate_succ, List.replicate_zero, List.set_cons_zero, List.set_cons_succ, List.getElem?_cons_zero, List.getElem?_cons_succ, List.drop_zero, List.take_succ_cons, List.take_nil, Option.getD_some, map_c, map_n, List.length_cons, List.length_nil, Nat.reduceAdd, Nat.reduceSub, Nat.reduceLeDiff, Nat.reduceEqDiff, Nat.zero_add, List.cons_append, List.nil_append, if_true, if_false]
    refine CallK.of (s27 hL hV hs.l hs.v hs.w) ?_
    simp (maxSteps := 4000000) -implicitDefEqProofs -dsimp (disch := omega) only [↓AOps_pu, ↓AOps_call, ↓AOps_guard, on_some, extK_same, guardB_tt, pval, rd_S, rd_C, put_S, chkd, bgot, partA, eqc, beq_self_eq_true, eq_self, List.replicate_succ, List.replicate_zero, List.set_cons_zero, List.set_cons_succ, List.getElem?_cons_zero, List.getElem?_cons_succ, List.drop_zero, List.take_succ_cons, List.take_nil, Option.getD_some, Option.map_some, map_n, List.length_cons, List.length_nil, Nat.reduceAdd, Nat.reduceSub, Nat.reduceLeDiff, Nat.reduceEqDiff, Nat.zero_add, List.cons_append, List.nil_append, bin_eql, if_true, if_false, Bool.false_eq_true, Bool.true_and, decide_true]
    refine CallK.of (known A) ?_
    simp (maxSteps := 4000000) -implicitDefEqProofs -dsimp (disch := omega) only [↓AW_ret, ↓AOps_nil, ↓AOps_pu, on_some, extK_same, ↓then_normal, ↓Fin_ret, pval, rd_S, rd_C, put_S, resV, resL, eq_self, List.replicate_succ, List.replicate_zero, List.set_cons_zero, List.set_cons_succ, List.getElem?_cons_zero, List.getElem?_cons_succ, Option.getD_some, Nat.reduceSub, List.cons_append, List.nil_append, if_true]
    exact gc_same rfl
end
end Go.Proofs.Ytmblehbjedpjoaa

