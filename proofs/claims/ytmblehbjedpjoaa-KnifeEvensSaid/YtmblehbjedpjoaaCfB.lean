/- What the law's proof rests on, part 4: for all that is said in each line. No conditions. -/
import Derived.Test.YtmblehbjedpjoaaRows
import Derived.Test.YtmblehbjedpjoaaCfA
namespace Go.Proofs.Ytmblehbjedpjoaa
open Go Go.Eng
def e0 (x : AV × List Int) : List AV := [x.1]
/-- A list of lists in memory. -/
structure LL (A : AHeap) (v : AV) (ws : List (AV × List Int)) : Prop where
  ls : Ls 1 e0 A v ws
  inn : ∀ x ∈ ws, L1 A x.1 x.2
theorem LL.mono {A A' : AHeap} {v : AV} {ws : List (AV × List Int)} (h : LL A v ws) (hp : A <+: A') : LL A' v ws := ⟨h.ls.mono hp, fun x hx => (h.inn x hx).mono hp⟩
abbrev lists (ws : List (AV × List Int)) : List (List Int) := ws.map Prod.snd
theorem mem_lists {ws : List (AV × List Int)} {w : AV × List Int} (h : w ∈ ws) : w.2 ∈ lists ws := List.mem_map_of_mem h
theorem c_kw (n lo hi : Int) (A : AHeap) : ACalls Try.prog 57 [I n, I lo, I hi] A (B (decide (lo ≤ n ∧ n ≤ hi))) A := by
  refine acalls hmix Try.func57 (by kernel_rfl) t57 3 rfl (by decide) ?_
  by_cases h : lo ≤ n
  · dsimp only [m57]
    simp (maxSteps := 4000000) -implicitDefEqProofs -dsimp (disch := omega) only [↓AW_ops, ↓AW_seq, ↓AW_ret, ↓AOps_nil, ↓AOps_pu, ↓AOps_guard, on_some, guardB_tt, ↓then_normal, ↓Fin_ret, pval, rd_S, rd_C, put_S, resV, resL, eq_self, List.replicate_succ, List.replicate_zero, List.set_cons_zero, List.set_cons_succ, List.getElem?_cons_zero, List.getElem?_cons_succ, Option.getD_some, Nat.reduceSub, List.cons_append, List.nil_append, bin_leq, bin_geq, if_true, decide_true, true_and, h]
    exact gc_same rfl
  · dsimp only [m57]
    simp (maxSteps := 4000000) -implicitDefEqProofs -dsimp (disch := omega) only [↓AW_ops, ↓AW_seq, ↓AW_ret, ↓AOps_nil, ↓AOps_pu, ↓AOps_guard, on_some, guardB_ft, skipS_some, ↓then_normal, ↓Fin_ret, pval, rd_S, rd_C, put_S, resV, resL, List.replicate_succ, List.replicate_zero, List.set_cons_zero, List.set_cons_succ, List.getElem?_cons_zero, List.getElem?_cons_succ, Option.getD_some, Nat.reduceSub, List.cons_append, List.nil_append, bin_geq, if_false, Bool.false_eq_true, decide_false, h]
    exact gc_same rfl
theorem c_rw (n lo hi : Int) (A : AHeap) : ACalls Try.prog 62 [I n, I lo, I hi] A (B (decide (lo ≤ n ∧ n ≤ hi))) A := by
  refine acalls hmix Try.func62 (by kernel_rfl) t62 3 rfl (by decide) ?_
  by_cases h : lo ≤ n
  · dsimp only [m62]
    simp (maxSteps := 4000000) -implicitDefEqProofs -dsimp (disch := omega) only [↓AW_ops, ↓AW_seq, ↓AW_ret, ↓AOps_nil, ↓AOps_pu, ↓AOps_guard, on_some, guardB_tt, ↓then_normal, ↓Fin_ret, pval, rd_S, rd_C, put_S, resV, resL, eq_self, List.replicate_succ, List.replicate_zero, List.set_cons_zero, List.set_cons_succ, List.getElem?_cons_zero, List.getElem?_cons_succ, Option.getD_some, Nat.reduceSub, List.cons_append, List.nil_append, bin_leq, bin_geq, if_true, decide_true, true_and, h]
    exact gc_same rfl
  · dsimp only [m62]
    simp (maxSteps := 4000000) -implicitDefEqProofs -dsimp (disch := omega) only [↓AW_ops, ↓AW_seq, ↓AW_ret, ↓AOps_nil, ↓AOps_pu, ↓AOps_guard, on_some, guardB_ft, skipS_some, ↓then_normal, ↓Fin_ret, pval, rd_S, rd_C, put_S, resV, resL, List.replicate_succ, List.replicate_zero, List.set_cons_zero, List.set_cons_succ, List.getElem?_cons_zero, List.getElem?_cons_succ, Option.getD_some, Nat.reduceSub, List.cons_append, List.nil_append, bin_geq, if_false, Bool.false_eq_true, decide_false, h]
    exact gc_same rfl
theorem c_v1 (n : Int) (A : AHeap) : ACalls Try.prog 70 [I n] A (B (!vLn n)) A := by
  refine acalls hmix Try.func70 (by kernel_rfl) t70 1 rfl (by decide) ?_
  dsimp only [m70]
  simp (maxSteps := 4000000) -implicitDefEqProofs -dsimp (disch := omega) only [↓AW_ops, ↓AW_seq, ↓AOps_nil, ↓AOps_pu, ↓AOps_call, on_some, ↓then_normal, pval, rd_S, rd_C, put_S, List.replicate_succ, List.replicate_zero, List.set_cons_zero, List.set_cons_succ, List.getElem?_cons_zero, List.getElem?_cons_succ, Option.getD_some, map_c, map_n, Nat.reduceSub, List.cons_append, List.nil_append]
  refine CallK.of (c_kw _ _ _ _) ?_
  simp (maxSteps := 4000000) -implicitDefEqProofs -dsimp (disch := omega) only [↓AW_ret, ↓AOps_nil, ↓AOps_pu, on_some, extK_same, ↓then_normal, ↓Fin_ret, pval, rd_S, put_S, resV, resL, List.replicate_succ, List.replicate_zero, List.set_cons_zero, List.set_cons_succ, List.getElem?_cons_zero, List.getElem?_cons_succ, Option.getD_some, Nat.reduceSub, List.cons_append, List.nil_append]
  exact gc_same (by simp [vLn])
theorem c_v2 (n : Int) (A : AHeap) : ACalls Try.prog 71 [I n] A (B (!vVl n)) A := by
  refine acalls hmix Try.func71 (by kernel_rfl) t71 1 rfl (by decide) ?_
  dsimp only [m71]
  simp (maxSteps := 4000000) -implicitDefEqProofs -dsimp (disch := omega) only [↓AW_ops, ↓AW_seq, ↓AOps_nil, ↓AOps_pu, ↓AOps_call, on_some, ↓then_normal, pval, rd_S, rd_C, put_S, List.replicate_succ, List.replicate_zero, List.set_cons_zero, List.set_cons_succ, List.getElem?_cons_zero, List.getElem?_cons_succ, Option.getD_some, map_c, map_n, Nat.reduceSub, List.cons_append, List.nil_append]
  refine CallK.of (c_kw _ _ _ _) ?_
  simp (maxSteps := 4000000) -implicitDefEqProofs -dsimp (disch := omega) only [↓AW_ret, ↓AOps_nil, ↓AOps_pu, on_some, extK_same, ↓then_normal, ↓Fin_ret, pval, rd_S, put_S, resV, resL, List.replicate_succ, List.replicate_zero, List.set_cons_zero, List.set_cons_succ, List.getElem?_cons_zero, List.getElem?_cons_succ, Option.getD_some, Nat.reduceSub, List.cons_append, List.nil_append]
  exact gc_same (by simp [vVl])
theorem mxL_take {xs : List Int} {i : Nat} {z : Int} (hi : 1 ≤ i) (hz : xs[i]? = some z) : mxL (xs.take (i + 1)) = max (mxL (xs.take i)) z := by
  cases xs with
  | nil => simp at hz
  | cons x xs =>
    obtain ⟨j, rfl⟩ : ∃ j, i = j + 1 := ⟨i - 1, by omega⟩
    simp only [List.take_succ_cons, mxL]
    rw [List.getElem?_cons_succ] at hz
    rw [List.take_add_one, hz, Option.toList_some, List.foldl_append, List.foldl_cons, List.foldl_nil]
theorem c_Max {xs : List Int} {v : AV} {A : AHeap} (hx : L1 A v xs) (h0 : 1 ≤ xs.length) (hl : xs.length ≤ 1000000) : ACalls Try.prog 72 [v] A (I (mxL xs)) A := by
  refine acalls hmix Try.func72 (by kernel_rfl) t72 1 rfl (by decide) ?_
  obtain ⟨x, hx0⟩ : ∃ x, xs[0]? = some x := ⟨_, List.getElem?_eq_getElem (by omega)⟩
  have h0' : ¬ (xs.length : Int) < 1 := by omega
  have i0 := hx.idx (k := .i64) (i := 0) (by omega)
  have e0' : ((0 : Nat) : Int) = 0 := rfl
  have l0 := hx.ld0 hx0 1 false (by decide)
  rw [e0'] at i0
  rw [Nat.zero_mul, Nat.add_zero] at i0 l0
  dsimp only [m72]
  simp (maxSteps := 4000000) -implicitDefEqProofs -dsimp (disch := omega) only [↓AW_skip, ↓AW_ops, ↓AW_seq, ↓AW_cond, ↓AW_block, ↓AOps_nil, ↓AOps_pu, ↓AOps_ld, on_some, condB_f, ↓then_normal, pval, lval, rd_S, rd_C, put_S, ↓AW_toLoop, partA, eq_self, List.replicate_succ, List.replicate_zero, List.set_cons_zero, List.set_cons_succ, List.getElem?_cons_zero, List.getElem?_cons_succ, List.drop_zero, List.take_succ_cons, List.take_nil, Option.getD_some, List.length_cons, List.length_nil, Nat.reduceSub, Nat.reduceLeDiff, Nat.zero_add, List.cons_append, List.nil_append, bin_lss, if_true, if_false, Bool.false_eq_true, decide_false, Go.Eng.e1, hx.len, h0', i0, l0]
  have ht1 : mxL (xs.take 1) = x := by
    cases xs with
    | nil => simp at hx0
    | cons y ys => simp at hx0; subst hx0; rfl
  refine LoopK.by 25 (fun i : Nat => 1 ≤ i ∧ i ≤ xs.length) (fun i => [(0, v), (3, I (mxL (xs.take i))), (4, I i)]) (fun _ => A) (fun i => xs.length - i) 1 ⟨by omega, by omega⟩ rfl (by simp [Has, rd_s, ht1]) rfl ?_
  rintro i ⟨hi1, hi⟩
  by_cases hlt : i < xs.length
  · obtain ⟨z, hz⟩ : ∃ z, xs[i]? = some z := ⟨_, List.getElem?_eq_getElem hlt⟩
    have hlt' : (i : Int) < xs.length := by omega
    simp (maxSteps := 4000000) -implicitDefEqProofs -dsimp (disch := omega) only [↓AW_skip, ↓AW_ops, ↓AW_seq, ↓AW_cond, ↓AW_block, ↓AOps_nil, ↓AOps_pu, ↓AOps_ld, on_some, condB_t, ↓then_normal, ↓inBlock_normal, pval, lval, rd_S, rd_C, put_S, partA, eq_self, mk, List.foldl_cons, List.foldl_nil, List.replicate_succ, List.replicate_zero, List.set_cons_zero, List.set_cons_succ, List.getElem?_cons_zero, List.getElem?_cons_succ, List.drop_zero, List.take_succ_cons, List.take_nil, Option.getD_some, map_c, map_n, List.length_cons, List.length_nil, Nat.reduceAdd, Nat.reduceLeDiff, Nat.zero_add, bin_add, bin_lss, mm_max, w64, if_true, if_false, Bool.false_eq_true, decide_true, Go.Eng.e1, true_and, hlt', hx.len, hx.idx hlt, hx.ld0 hz 1 false (by decide)]
    exact ⟨i + 1, ⟨by omega, hlt⟩, by simp [Has, rd_s, mxL_take hi1 hz], by omega⟩
  · have hlt' : ¬ ((i : Int) < xs.length) := by omega
    simp (maxSteps := 4000000) -implicitDefEqProofs -dsimp (disch := omega) only [↓AW_ops, ↓AW_seq, ↓AW_cond, ↓AW_exit, ↓AW_ret, ↓AOps_nil, ↓AOps_pu, on_some, condB_f, ↓then_normal, ↓then_exit, ↓inBlock_exit, ↓Fin_ret, pval, rd_S, put_S, resV, resL, eq_self, mk, List.foldl_cons, List.foldl_nil, List.replicate_succ, List.replicate_zero, List.set_cons_zero, List.set_cons_succ, List.getElem?_cons_zero, List.getElem?_cons_succ, Option.getD_some, bin_lss, if_true, decide_false, hlt', hx.len]
    rw [List.take_of_length_le (by omega)]
    exact gc_same rfl
section
variable {L : List Int} {ws : List (AV × List Int)} {x y : AV} {A : AHeap}
theorem kE_large {V : List (List Int)} (h : ¬ (((1 : Int) ≤ L.length ∧ (L.length : Int) ≤ 6) ∧ ((1 : Int) ≤ V.length ∧ (V.length : Int) ≤ 5))) : kE L V = 3 := by
  unfold kE; rw [if_pos h]
theorem kE_bad {V : List (List Int)} (h : ((1 : Int) ≤ L.length ∧ (L.length : Int) ≤ 6) ∧ ((1 : Int) ≤ V.length ∧ (V.length : Int) ≤ 5)) {n : Int} (hn : n ∈ L) (hb : vLn n = false) : kE L V = 1 := by
  unfold kE
  rw [if_neg (by omega), if_neg]
  intro ha
  simp only [Bool.and_eq_true] at ha
  rw [List.all_eq_true.1 ha.1 n hn] at hb; cases hb
theorem kE_row {V : List (List Int)} (h : ((1 : Int) ≤ L.length ∧ (L.length : Int) ≤ 6) ∧ ((1 : Int) ≤ V.length ∧ (V.length : Int) ≤ 5)) {r : List Int} (hr : r ∈ V) (hb : rOK L r = false) : kE L V = 1 := by
  unfold kE
  rw [if_neg (by omega), if_neg]
  intro ha
  simp only [Bool.and_eq_true] at ha
  rw [List.all_eq_true.1 ha.2 r hr] at hb; cases hb
theorem kE_ok {V : List (List Int)} (h : ((1 : Int) ≤ L.length ∧ (L.length : Int) ≤ 6) ∧ ((1 : Int) ≤ V.length ∧ (V.length : Int) ≤ 5)) (h1 : L.all vLn = true) (h2 : V.all (rOK L) = true) : kE L V = 0 := by
  unfold kE
  rw [if_neg (by omega), if_pos (by simp [h1, h2])]
theorem rOK_false {r : List Int} (h : ¬ (r.length = L.length ∧ (∀ y ∈ r, 0 ≤ y ∧ y ≤ 20) ∧ ∃ y ∈ r, y ≠ 0)) : rOK L r = false := by
  rw [← rOK_iff] at h; simpa using h
theorem s26 (hL : L1 A x L) (hV : LL A y ws) (hs : L.length ≤ 1000000) (hl : ws.length ≤ 1000000) (hw : ∀ w ∈ ws, w.2.length ≤ 1000000) : ACalls Try.prog 26 [.agg [x, y]] A (I (kE L (lists ws))) A := by
  refine acalls hmix Try.func26 (by kernel_rfl) t26 1 rfl (by decide) ?_
  dsimp only [m26]
  simp (maxSteps := 4000000) -implicitDefEqProofs -dsimp (disch := omega) only [↓AW_ops, ↓AW_seq, ↓AOps_nil, ↓AOps_pu, ↓AOps_call, on_some, ↓then_normal, pval, rd_S, rd_C, put_S, chkd, isAdr, bgot, AV.cells?, partA, eq_self, List.replicate_succ, List.replicate_zero, List.set_cons_zero, List.set_cons_succ, List.getElem?_cons_zero, List.getElem?_cons_succ, List.drop_zero, List.take_zero, List.take_succ_cons, Option.getD_some, map_c, map_n, List.length_cons, List.length_nil, Nat.reduceAdd, Nat.reduceSub, Nat.reduceLeDiff, Nat.zero_add, List.cons_append, List.nil_append, if_true, if_false, Bool.false_eq_true, hL.len]
  refine CallK.of (c_kw _ _ _ _) ?_
  have hll : ((lists ws).length : Int) = ws.length := by simp
  by_cases h1 : (1 : Int) ≤ L.length ∧ (L.length : Int) ≤ 6
  · simp (maxSteps := 4000000) -implicitDefEqProofs -dsimp (disch := omega) only [↓AOps_pu, ↓AOps_call, ↓AOps_guard, on_some, extK_same, guardB_ff, pval, rd_S, rd_C, put_S, chkd, isAdr, bgot, AV.cells?, partA, eq_self, List.replicate_succ, List.replicate_zero, List.set_cons_zero, List.set_cons_succ, List.getElem?_cons_zero, List.getElem?_cons_succ, List.drop_zero, List.drop_succ_cons, List.take_succ_cons, List.take_nil, Option.getD_some, map_c, map_n, List.length_cons, List.length_nil, Nat.reduceAdd, Nat.reduceSub, Nat.reduceLeDiff, Nat.zero_add, List.cons_append, List.nil_append, if_true, if_false, Bool.false_eq_true, Bool.not_true, decide_true, and_true, h1, hV.ls.len]
    refine CallK.of (c_kw _ _ _ _) ?_
    by_cases h2 : (1 : Int) ≤ ws.length ∧ (ws.length : Int) ≤ 5
    · have h12 : ((1 : Int) ≤ L.length ∧ (L.length : Int) ≤ 6) ∧ ((1 : Int) ≤ (lists ws).length ∧ ((lists ws).length : Int) ≤ 5) := ⟨h1, by omega⟩
      simp (maxSteps := 4000000) -implicitDefEqProofs -dsimp (disch := omega) only [↓AW_skip, ↓AW_ops, ↓AW_seq, ↓AW_cond, ↓AOps_nil, ↓AOps_pu, ↓AOps_call, ↓AOps_guard, on_some, extK_same, guardB_ff, condB_f, ↓then_normal, pval, rd_S, rd_C, put_S, chkd, isAdr, bgot, AV.cells?, partA, eq_self, List.replicate_succ, List.replicate_zero, List.set_cons_zero, List.set_cons_succ, List.getElem?_cons_zero, List.getElem?_cons_succ, List.drop_zero, List.take_zero, List.take_succ_cons, Option.getD_some, map_c, map_n, List.length_cons, List.length_nil, Nat.reduceAdd, Nat.reduceSub, Nat.reduceLeDiff, Nat.zero_add, List.cons_append, List.nil_append, if_true, if_false, Bool.false_eq_true, Bool.not_true, decide_true, and_true, h2]
      refine CallK.of (c_ContainsFunc hL hs 70 [] (fun n => !vLn n) (fun n _ => c_v1 n A)) ?_
      by_cases h3 : L.any (fun n => !vLn n) = true
      · simp (maxSteps := 4000000) -implicitDefEqProofs -dsimp (disch := omega) only [↓AW_ops, ↓AW_seq, ↓AW_cond, ↓AW_ret, ↓AOps_nil, ↓AOps_pu, on_some, extK_same, condB_t, ↓then_normal, ↓then_ret, ↓Fin_ret, pval, rd_S, rd_C, put_S, resV, resL, List.replicate_succ, List.replicate_zero, List.set_cons_zero, List.set_cons_succ, List.getElem?_cons_zero, List.getElem?_cons_succ, Option.getD_some, Nat.reduceSub, List.cons_append, List.nil_append, h3]
        obtain ⟨n, hn, hb⟩ := List.any_eq_true.1 h3
        exact gc_same (by rw [kE_bad h12 hn (by simpa using hb)])
      · have h3' : L.any (fun n => !vLn n) = false := by simpa using h3
        have hLa : L.all vLn = true := by
          rw [List.all_eq_true]; intro n hn
          have := List.any_eq_false.1 h3' n hn
          simpa using this
        simp (maxSteps := 4000000) -implicitDefEqProofs -dsimp (disch := omega) only [↓AW_skip, ↓AW_ops, ↓AW_seq, ↓AW_cond, ↓AW_block, ↓AOps_nil, ↓AOps_pu, on_some, extK_same, condB_f, ↓then_normal, pval, rd_S, rd_C, put_S, ↓AW_toLoop, chkd, isAdr, bgot, AV.cells?, partA, eq_self, List.replicate_succ, List.replicate_zero, List.set_cons_zero, List.set_cons_succ, List.getElem?_cons_zero, List.getElem?_cons_succ, List.drop_zero, List.drop_succ_cons, List.take_succ_cons, List.take_nil, Option.getD_some, List.length_cons, List.length_nil, Nat.reduceAdd, Nat.reduceSub, Nat.reduceLeDiff, Nat.zero_add, List.cons_append, List.nil_append, if_true, if_false, Bool.false_eq_true, h3', hV.ls.len]
        refine LoopK.by 43 (fun i : Nat => i ≤ ws.length ∧ ∀ w ∈ ws.take i, rOK L w.2 = true) (fun i => [(1, .agg [x, y]), (21, y), (22, I ws.length), (23, I i)]) (fun _ => A) (fun i => ws.length - i) 0 ⟨by omega, by simp⟩ rfl (by simp [Has, rd_s]) rfl ?_
        rintro i ⟨hi, he⟩
        by_cases hlt : i < ws.length
        · obtain ⟨w, hz⟩ : ∃ z, ws[i]? = some z := ⟨_, List.getElem?_eq_getElem hlt⟩
          have hlt' : (i : Int) < ws.length := by omega
          have hm := List.mem_of_getElem? hz
          have hwl := hw w hm
          have hx := hV.inn w hm
          by_cases h4 : (w.2.length : Int) = L.length
          · simp (maxSteps := 4000000) -implicitDefEqProofs -dsimp (disch := omega) only [↓AW_skip, ↓AW_ops, ↓AW_seq, ↓AW_cond, ↓AW_block, ↓AOps_nil, ↓AOps_pu, ↓AOps_ld, ↓AOps_call, ↓AOps_guard, on_some, guardB_ff, condB_t, ↓then_normal, pval, lval, rd_S, rd_C, put_S, chkd, isAdr, bgot, AV.cells?, partA, eq_self, mk, List.foldl_cons, List.foldl_nil, List.replicate_succ, List.replicate_zero, List.set_cons_zero, List.set_cons_succ, List.getElem?_cons_zero, List.getElem?_cons_succ, List.drop_zero, List.take_zero, List.take_succ_cons, List.take_nil, Option.getD_some, map_c, map_n, List.length_cons, List.length_nil, Nat.reduceAdd, Nat.reduceLeDiff, Nat.zero_add, bin_neq, bin_lss, if_true, if_false, Bool.false_eq_true, decide_true, decide_false, not_true_eq_false, hlt', hV.ls.idx hlt, hV.ls.ld0 hz 1 false (by decide), e0, hx.len, hL.len, h4]
            refine CallK.of (c_ContainsFunc hx hwl 71 [] (fun n => !vVl n) (fun n _ => c_v2 n A)) ?_
            by_cases h5 : w.2.any (fun n => !vVl n) = true
            · simp (maxSteps := 4000000) -implicitDefEqProofs -dsimp (disch := omega) only [↓AW_ops, ↓AW_seq, ↓AW_cond, ↓AW_ret, ↓AOps_nil, ↓AOps_pu, ↓AOps_guard, on_some, extK_same, guardB_tf, skipS_some, condB_t, ↓then_normal, ↓then_ret, ↓inBlock_ret, ↓Fin_ret, pval, rd_S, rd_C, put_S, resV, resL, eq_self, mk, List.foldl_cons, List.foldl_nil, List.replicate_succ, List.replicate_zero, List.set_cons_zero, List.set_cons_succ, List.getElem?_cons_zero, List.getElem?_cons_succ, Option.getD_some, if_true, if_false, Bool.false_eq_true, h5]
              obtain ⟨n, hn, hb⟩ := List.any_eq_true.1 h5
              refine gc_same ?_
              rw [kE_row h12 (mem_lists hm) (rOK_false (fun hh => ?_))]
              have := hh.2.1 n hn
              simp [vVl] at hb
              omega
            · have h5' : w.2.any (fun n => !vVl n) = false := by simpa using h5
              have hv : ∀ n ∈ w.2, 0 ≤ n ∧ n ≤ 20 := by
                intro n hn
                have := List.any_eq_false.1 h5' n hn
                simpa [vVl] using this
              have hne : w.2 ≠ [] := by intro e; rw [e] at h4; simp at h4; omega
              have hz0 := mxL_zero hne (fun n hn => (hv n hn).1)
              simp (maxSteps := 4000000) -implicitDefEqProofs -dsimp (disch := omega) only [↓AOps_pu, ↓AOps_call, ↓AOps_guard, on_some, extK_same, guardB_ff, pval, rd_S, rd_C, put_S, mk, List.foldl_cons, List.foldl_nil, List.replicate_succ, List.replicate_zero, List.set_cons_zero, List.set_cons_succ, List.getElem?_cons_zero, List.getElem?_cons_succ, Option.getD_some, map_c, map_n, if_false, Bool.false_eq_true, h5']
              refine CallK.of (c_Max hx (by omega) hwl) ?_
              by_cases h6 : mxL w.2 = 0
              · simp (maxSteps := 4000000) -implicitDefEqProofs -dsimp (disch := omega) only [↓AW_ops, ↓AW_seq, ↓AW_cond, ↓AW_ret, ↓AOps_nil, ↓AOps_pu, ↓AOps_guard, on_some, extK_same, guardB_ff, condB_t, ↓then_normal, ↓then_ret, ↓inBlock_ret, ↓Fin_ret, pval, rd_S, rd_C, put_S, resV, resL, eq_self, mk, List.foldl_cons, List.foldl_nil, List.replicate_succ, List.replicate_zero, List.set_cons_zero, List.set_cons_succ, List.getElem?_cons_zero, List.getElem?_cons_succ, Option.getD_some, bin_eql, if_false, Bool.false_eq_true, decide_true, h6]
                refine gc_same ?_
                rw [kE_row h12 (mem_lists hm) (rOK_false (fun hh => hz0.1 h6 hh.2.2))]
              · simp (maxSteps := 4000000) -implicitDefEqProofs -dsimp (disch := omega) only [↓AW_skip, ↓AW_ops, ↓AW_cond, ↓AOps_nil, ↓AOps_pu, ↓AOps_guard, on_some, extK_same, guardB_ff, condB_f, ↓then_normal, ↓inBlock_normal, pval, rd_S, rd_C, put_S, eq_self, mk, List.foldl_cons, List.foldl_nil, List.replicate_succ, List.replicate_zero, List.set_cons_zero, List.set_cons_succ, List.getElem?_cons_zero, List.getElem?_cons_succ, Option.getD_some, List.length_cons, List.length_nil, Nat.reduceAdd, Nat.zero_add, bin_add, bin_eql, w64, if_false, Bool.false_eq_true, decide_false, true_and, h6]
                refine ⟨i + 1, ⟨hlt, fun u hu => ?_⟩, by simp [Has, rd_s], by omega⟩
                rcases (take_mem hz).1 hu with hu | rfl
                · exact he u hu
                · exact rOK_iff.2 ⟨by omega, hv, Classical.byContradiction fun hn => h6 (hz0.2 hn)⟩
          · simp (maxSteps := 4000000) -implicitDefEqProofs -dsimp (disch := omega) only [↓AW_skip, ↓AW_ops, ↓AW_seq, ↓AW_cond, ↓AW_block, ↓AW_ret, ↓AOps_nil, ↓AOps_pu, ↓AOps_ld, ↓AOps_guard, on_some, guardB_tf, skipS_some, condB_t, ↓then_normal, ↓then_ret, ↓inBlock_ret, ↓Fin_ret, pval, lval, rd_S, rd_C, put_S, resV, resL, chkd, isAdr, bgot, AV.cells?, partA, eq_self, mk, List.foldl_cons, List.foldl_nil, List.replicate_succ, List.replicate_zero, List.set_cons_zero, List.set_cons_succ, List.getElem?_cons_zero, List.getElem?_cons_succ, List.drop_zero, List.take_zero, List.take_succ_cons, List.take_nil, Option.getD_some, List.length_cons, List.length_nil, Nat.reduceAdd, Nat.reduceLeDiff, Nat.zero_add, bin_neq, bin_lss, if_true, if_false, Bool.false_eq_true, decide_true, not_false_eq_true, hlt', hV.ls.idx hlt, hV.ls.ld0 hz 1 false (by decide), e0, hx.len, hL.len, h4]
            refine gc_same ?_
            rw [kE_row h12 (mem_lists hm) (rOK_false (fun hh => h4 (by omega)))]
        · have hlt' : ¬ ((i : Int) < ws.length) := by omega
          simp (maxSteps := 4000000) -implicitDefEqProofs -dsimp (disch := omega) only [↓AW_ops, ↓AW_seq, ↓AW_cond, ↓AW_exit, ↓AW_ret, ↓AOps_nil, ↓AOps_pu, on_some, condB_f, ↓then_normal, ↓then_exit, ↓inBlock_exit, ↓Fin_ret, pval, rd_S, rd_C, put_S, resV, resL, eq_self, mk, List.foldl_cons, List.foldl_nil, List.replicate_succ, List.replicate_zero, List.set_cons_zero, List.set_cons_succ, List.getElem?_cons_zero, List.getElem?_cons_succ, Option.getD_some, bin_lss, if_true, decide_false, hlt']
          rw [List.take_of_length_le (by omega)] at he
          refine gc_same ?_
          rw [kE_ok h12 hLa (List.all_eq_true.2 fun r hr => by obtain ⟨w, hw, rfl⟩ := List.mem_map.1 hr; exact he w hw)]
    · simp (maxSteps := 4000000) -implicitDefEqProofs -dsimp (disch := omega) only [↓AW_ops, ↓AW_seq, ↓AW_cond, ↓AW_ret, ↓AOps_nil, ↓AOps_pu, ↓AOps_guard, on_some, extK_same, guardB_ff, condB_t, ↓then_normal, ↓then_ret, ↓Fin_ret, pval, rd_S, rd_C, put_S, resV, resL, List.replicate_succ, List.replicate_zero, List.set_cons_zero, List.set_cons_succ, List.getElem?_cons_zero, List.getElem?_cons_succ, Option.getD_some, Nat.reduceSub, List.cons_append, List.nil_append, if_false, Bool.false_eq_true, Bool.not_false, decide_false, h2]
      exact gc_same (by rw [kE_large (by omega)])
  · simp (maxSteps := 4000000) -implicitDefEqProofs -dsimp (disch := omega) only [↓AW_ops, ↓AW_seq, ↓AW_cond, ↓AW_ret, ↓AOps_nil, ↓AOps_pu, ↓AOps_guard, on_some, extK_same, guardB_tf, skipS_some, condB_t, ↓then_normal, ↓then_ret, ↓Fin_ret, pval, rd_S, rd_C, put_S, resV, resL, eq_self, List.replicate_succ, List.replicate_zero, List.set_cons_zero, List.set_cons_succ, List.getElem?_cons_zero, List.getElem?_cons_succ, Option.getD_some, Nat.reduceSub, List.cons_append, List.nil_append, if_true, Bool.not_false, decide_false, h1]
    exact gc_same (by rw [kE_large (by omega)])
theorem sum_zero {l : List Int} (h : ∀ n ∈ l, 0 ≤ n) : l.sum = 0 ↔ ¬ ∃ n ∈ l, n ≠ 0 := by
  induction l with
  | nil => simp
  | cons a l ih =>
    have ih := ih (fun n hn => h n (by simp [hn]))
    have ha := h a (by simp)
    have hs : 0 ≤ l.sum := by
      have : ∀ l : List Int, (∀ y ∈ l, 0 ≤ y) → 0 ≤ l.sum := by
        intro l
        induction l with
        | nil => intro _; simp
        | cons a l ih =>
          intro h
          have h1 := ih (fun y hy => h y (by simp [hy]))
          have h2 := h a (by simp)
          simp only [List.sum_cons]
          omega
      exact this l (fun n hn => h n (by simp [hn]))
    rw [List.sum_cons]
    constructor
    · rintro h1 ⟨n, hn, h2⟩
      rcases List.mem_cons.1 hn with rfl | hn
      · omega
      · exact ih.1 (by omega) ⟨n, hn, h2⟩
    · intro h1
      have h2 : a = 0 := Classical.byContradiction fun hn => h1 ⟨a, by simp, hn⟩
      have h3 := ih.2 (fun ⟨n, hn, h4⟩ => h1 ⟨n, by simp [hn], h4⟩)
      omega
theorem s27 (hL : L1 A x L) (hV : LL A y ws) (hs : L.length ≤ 1000000) (hl : ws.length ≤ 1000000) (hw : ∀ w ∈ ws, w.2.length ≤ 1000000) : ACalls Try.prog 27 [.agg [x, y]] A (I (kE L (lists ws))) A := by
  refine acalls hmix Try.func27 (by kernel_rfl) t27 1 rfl (by decide) ?_
  dsimp only [m27]
  simp (maxSteps := 4000000) -implicitDefEqProofs -dsimp (disch := omega) only [↓AW_ops, ↓AW_seq, ↓AOps_nil, ↓AOps_pu, ↓AOps_call, on_some, ↓then_normal, pval, rd_S, rd_C, put_S, chkd, isAdr, bgot, AV.cells?, partA, eq_self, List.replicate_succ, List.replicate_zero, List.set_cons_zero, List.set_cons_succ, List.getElem?_cons_zero, List.getElem?_cons_succ, List.drop_zero, List.take_zero, List.take_succ_cons, Option.getD_some, map_c, map_n, List.length_cons, List.length_nil, Nat.reduceAdd, Nat.reduceSub, Nat.reduceLeDiff, Nat.zero_add, List.cons_append, List.nil_append, if_true, if_false, Bool.false_eq_true, hL.len]
  refine CallK.of (c_rw _ _ _ _) ?_
  have hll : ((lists ws).length : Int) = ws.length := by simp
  by_cases h1 : (1 : Int) ≤ L.length ∧ (L.length : Int) ≤ 6
  · simp (maxSteps := 4000000) -implicitDefEqProofs -dsimp (disch := omega) only [↓AOps_pu, ↓AOps_call, ↓AOps_guard, on_some, extK_same, guardB_ff, pval, rd_S, rd_C, put_S, chkd, isAdr, bgot, AV.cells?, partA, eq_self, List.replicate_succ, List.replicate_zero, List.set_cons_zero, List.set_cons_succ, List.getElem?_cons_zero, List.getElem?_cons_succ, List.drop_zero, List.drop_succ_cons, List.take_succ_cons, List.take_nil, Option.getD_some, map_c, map_n, List.length_cons, List.length_nil, Nat.reduceAdd, Nat.reduceSub, Nat.reduceLeDiff, Nat.zero_add, List.cons_append, List.nil_append, if_true, if_false, Bool.false_eq_true, Bool.not_true, decide_true, and_true, h1, hV.ls.len]
    refine CallK.of (c_rw _ _ _ _) ?_
    by_cases h2 : (1 : Int) ≤ ws.length ∧ (ws.length : Int) ≤ 5
    · have h12 : ((1 : Int) ≤ L.length ∧ (L.length : Int) ≤ 6) ∧ ((1 : Int) ≤ (lists ws).length ∧ ((lists ws).length : Int) ≤ 5) := ⟨h1, by omega⟩
      simp (maxSteps := 4000000) -implicitDefEqProofs -dsimp (disch := omega) only [↓AW_skip, ↓AW_ops, ↓AW_seq, ↓AW_cond, ↓AW_block, ↓AOps_nil, ↓AOps_pu, ↓AOps_guard, on_some, extK_same, guardB_ff, condB_f, ↓then_normal, pval, rd_S, rd_C, put_S, ↓AW_toLoop, List.replicate_succ, List.replicate_zero, List.set_cons_zero, List.set_cons_succ, List.getElem?_cons_zero, List.getElem?_cons_succ, Option.getD_some, Nat.reduceSub, List.cons_append, List.nil_append, if_false, Bool.false_eq_true, Bool.not_true, decide_true, and_true, h2]
      refine LoopK.by 79 (fun i : Nat => i ≤ L.length ∧ ∀ n ∈ L.take i, vLn n = true) (fun i => [(1, .agg [x, y]), (3, I i)]) (fun _ => A) (fun i => L.length - i) 0 ⟨by omega, by simp⟩ rfl (by simp [Has, rd_s]) rfl ?_
      rintro i ⟨hi, he⟩
      by_cases hlt : i < L.length
      · obtain ⟨n, hz⟩ : ∃ z, L[i]? = some z := ⟨_, List.getElem?_eq_getElem hlt⟩
        have hlt' : (i : Int) < L.length := by omega
        have hm := List.mem_of_getElem? hz
        simp (maxSteps := 4000000) -implicitDefEqProofs -dsimp (disch := omega) only [↓AW_skip, ↓AW_ops, ↓AW_seq, ↓AW_cond, ↓AW_block, ↓AOps_nil, ↓AOps_pu, ↓AOps_ld, ↓AOps_call, on_some, condB_t, ↓then_normal, pval, lval, rd_S, rd_C, put_S, chkd, isAdr, bgot, AV.cells?, partA, eq_self, mk, List.foldl_cons, List.foldl_nil, List.replicate_succ, List.replicate_zero, List.set_cons_zero, List.set_cons_succ, List.getElem?_cons_zero, List.getElem?_cons_succ, List.drop_zero, List.take_zero, List.take_succ_cons, List.take_nil, Option.getD_some, map_c, map_n, List.length_cons, List.length_nil, Nat.reduceAdd, Nat.reduceLeDiff, Nat.zero_add, bin_lss, if_true, if_false, Bool.false_eq_true, decide_true, Go.Eng.e1, hlt', hL.len, hL.idx hlt, hL.ld0 hz 1 false (by decide)]
        refine CallK.of (c_rw _ _ _ _) ?_
        by_cases h3 : (1 : Int) ≤ n ∧ n ≤ 20
        · simp (maxSteps := 4000000) -implicitDefEqProofs -dsimp (disch := omega) only [↓AW_skip, ↓AW_ops, ↓AW_cond, ↓AOps_nil, ↓AOps_pu, on_some, extK_same, condB_f, ↓then_normal, ↓inBlock_normal, pval, rd_S, rd_C, put_S, eq_self, mk, List.foldl_cons, List.foldl_nil, List.replicate_succ, List.replicate_zero, List.set_cons_zero, List.set_cons_succ, List.getElem?_cons_zero, List.getElem?_cons_succ, Option.getD_some, List.length_cons, List.length_nil, Nat.reduceAdd, Nat.zero_add, bin_add, w64, Bool.not_true, decide_true, true_and, and_true, h3]
          refine ⟨i + 1, ⟨hlt, fun u hu => ?_⟩, by simp [Has, rd_s], by omega⟩
          rcases (take_mem hz).1 hu with hu | rfl
          · exact he u hu
          · simpa [vLn] using h3
        · simp (maxSteps := 4000000) -implicitDefEqProofs -dsimp (disch := omega) only [↓AW_ops, ↓AW_seq, ↓AW_cond, ↓AW_ret, ↓AOps_nil, ↓AOps_pu, on_some, extK_same, condB_t, ↓then_normal, ↓then_ret, ↓inBlock_ret, ↓Fin_ret, pval, rd_S, rd_C, put_S, resV, resL, mk, List.foldl_cons, List.foldl_nil, List.replicate_succ, List.replicate_zero, List.set_cons_zero, List.set_cons_succ, List.getElem?_cons_zero, List.getElem?_cons_succ, Option.getD_some, Bool.not_false, decide_false, h3]
          exact gc_same (by rw [kE_bad h12 hm (by simp only [vLn, decide_eq_false_iff_not]; exact h3)])
      · have hlt' : ¬ ((i : Int) < L.length) := by omega
        rw [List.take_of_length_le (by omega)] at he
        simp (maxSteps := 4000000) -implicitDefEqProofs -dsimp (disch := omega) only [↓AW_ops, ↓AW_seq, ↓AW_cond, ↓AW_block, ↓AW_exit, ↓AOps_nil, ↓AOps_pu, on_some, condB_f, ↓then_normal, ↓then_exit, ↓inBlock_exit, pval, rd_S, rd_C, put_S, ↓AW_toLoop, chkd, isAdr, bgot, AV.cells?, partA, eq_self, mk, List.foldl_cons, List.foldl_nil, List.replicate_succ, List.replicate_zero, List.set_cons_zero, List.set_cons_succ, List.getElem?_cons_zero, List.getElem?_cons_succ, List.drop_zero, List.take_zero, List.take_succ_cons, Option.getD_some, List.length_cons, List.length_nil, Nat.reduceAdd, Nat.reduceLeDiff, Nat.zero_add, bin_lss, if_true, if_false, Bool.false_eq_true, decide_false, hlt', hL.len]
        refine LoopK.by 79 (fun i : Nat => i ≤ ws.length ∧ ∀ w ∈ ws.take i, rOK L w.2 = true) (fun i => [(1, .agg [x, y]), (4, I i)]) (fun _ => A) (fun i => ws.length - i) 0 ⟨by omega, by simp⟩ rfl (by simp [Has, rd_s]) rfl ?_
        rintro o ⟨ho, he2⟩
        by_cases hlt : o < ws.length
        · obtain ⟨w, hz⟩ : ∃ z, ws[o]? = some z := ⟨_, List.getElem?_eq_getElem hlt⟩
          have hlt' : (o : Int) < ws.length := by omega
          have hm := List.mem_of_getElem? hz
          have hwl := hw w hm
          have hx := hV.inn w hm
          by_cases h4 : (w.2.length : Int) = L.length
          · simp (maxSteps := 4000000) -implicitDefEqProofs -dsimp (disch := omega) only [↓AW_skip, ↓AW_ops, ↓AW_seq, ↓AW_cond, ↓AW_block, ↓AOps_nil, ↓AOps_pu, ↓AOps_ld, on_some, condB_t, condB_f, ↓then_normal, pval, lval, rd_S, rd_C, put_S, ↓AW_toLoop, chkd, isAdr, bgot, AV.cells?, partA, eq_self, mk, List.foldl_cons, List.foldl_nil, List.replicate_succ, List.replicate_zero, List.set_cons_zero, List.set_cons_succ, List.getElem?_cons_zero, List.getElem?_cons_succ, List.drop_zero, List.drop_succ_cons, List.take_zero, List.take_succ_cons, List.take_nil, Option.getD_some, List.length_cons, List.length_nil, Nat.reduceAdd, Nat.reduceLeDiff, Nat.zero_add, bin_neq, bin_lss, if_true, if_false, Bool.false_eq_true, decide_true, decide_false, not_true_eq_false, hlt', hV.ls.len, hV.ls.idx hlt, hV.ls.ld0 hz 1 false (by decide), e0, hx.len, hL.len, h4]
            refine LoopK.by 79 (fun k : Nat => k ≤ L.length ∧ ∀ n ∈ w.2.take k, 0 ≤ n ∧ n ≤ 20) (fun k => [(1, .agg [x, y]), (4, I o), (5, I (w.2.take k).sum), (6, I k)]) (fun _ => A) (fun k => L.length - k) 0 ⟨by omega, by simp⟩ rfl (by simp [Has, rd_s]) rfl ?_
            rintro k ⟨hk, hv⟩
            have hsb := sumB hv
            rw [List.length_take] at hsb
            by_cases hltk : k < L.length
            · have hltw : k < w.2.length := by omega
              obtain ⟨n, hn⟩ : ∃ n, w.2[k]? = some n := ⟨_, List.getElem?_eq_getElem hltw⟩
              have hltk' : (k : Int) < L.length := by omega
              simp (maxSteps := 4000000) -implicitDefEqProofs -dsimp (disch := omega) only [↓AW_skip, ↓AW_ops, ↓AW_seq, ↓AW_cond, ↓AW_block, ↓AOps_nil, ↓AOps_pu, ↓AOps_ld, ↓AOps_call, on_some, condB_t, ↓then_normal, pval, lval, rd_S, rd_C, put_S, chkd, isAdr, bgot, AV.cells?, partA, eq_self, mk, List.foldl_cons, List.foldl_nil, List.replicate_succ, List.replicate_zero, List.set_cons_zero, List.set_cons_succ, List.getElem?_cons_zero, List.getElem?_cons_succ, List.drop_zero, List.drop_succ_cons, List.take_zero, List.take_succ_cons, List.take_nil, Option.getD_some, map_c, map_n, List.length_cons, List.length_nil, Nat.reduceAdd, Nat.reduceLeDiff, Nat.zero_add, bin_lss, if_true, if_false, Bool.false_eq_true, decide_true, Go.Eng.e1, hltk', hL.len, hV.ls.idx hlt, hV.ls.ld0 hz 1 false (by decide), e0, hx.idx hltw, hx.ld0 hn 1 false (by decide)]
              refine CallK.of (c_rw _ _ _ _) ?_
              by_cases h5 : (0 : Int) ≤ n ∧ n ≤ 20
              · simp (maxSteps := 4000000) -implicitDefEqProofs -dsimp (disch := omega) only [↓AW_skip, ↓AW_ops, ↓AW_cond, ↓AOps_nil, ↓AOps_pu, ↓AOps_ld, on_some, extK_same, condB_f, ↓then_normal, ↓inBlock_normal, pval, lval, rd_S, rd_C, put_S, chkd, isAdr, bgot, AV.cells?, partA, eq_self, mk, List.foldl_cons, List.foldl_nil, List.replicate_succ, List.replicate_zero, List.set_cons_zero, List.set_cons_succ, List.getElem?_cons_zero, List.getElem?_cons_succ, List.drop_zero, List.drop_succ_cons, List.take_succ_cons, List.take_nil, Option.getD_some, List.length_cons, List.length_nil, Nat.reduceAdd, Nat.reduceLeDiff, Nat.zero_add, bin_add, w64, if_true, if_false, Bool.false_eq_true, Bool.not_true, decide_true, Go.Eng.e1, true_and, and_true, h5, hV.ls.idx hlt, hV.ls.ld0 hz 1 false (by decide), e0, hx.idx hltw, hx.ld0 hn 1 false (by decide)]
                refine ⟨k + 1, ⟨hltk, fun u hu => ?_⟩, by simp [Has, rd_s, take_sum_succ' hn], by omega⟩
                rcases (take_mem hn).1 hu with hu | rfl
                · exact hv u hu
                · exact h5
              · simp (maxSteps := 4000000) -implicitDefEqProofs -dsimp (disch := omega) only [↓AW_ops, ↓AW_seq, ↓AW_cond, ↓AW_ret, ↓AOps_nil, ↓AOps_pu, on_some, extK_same, condB_t, ↓then_normal, ↓then_ret, ↓inBlock_ret, ↓Fin_ret, pval, rd_S, rd_C, put_S, resV, resL, mk, List.foldl_cons, List.foldl_nil, List.replicate_succ, List.replicate_zero, List.set_cons_zero, List.set_cons_succ, List.getElem?_cons_zero, List.getElem?_cons_succ, Option.getD_some, Bool.not_false, decide_false, h5]
                exact gc_same (by rw [kE_row h12 (mem_lists hm) (rOK_false (fun hh => h5 (hh.2.1 n (List.mem_of_getElem? hn))))])
            · have hltk' : ¬ ((k : Int) < L.length) := by omega
              rw [List.take_of_length_le (by omega)] at hv hsb
              have hsz := sum_zero (fun n hn => (hv n hn).1)
              have htk : w.2.take k = w.2 := List.take_of_length_le (by omega)
              by_cases h6 : w.2.sum = 0
              · simp (maxSteps := 4000000) -implicitDefEqProofs -dsimp (disch := omega) only [↓AW_ops, ↓AW_seq, ↓AW_cond, ↓AW_exit, ↓AW_ret, ↓AOps_nil, ↓AOps_pu, on_some, condB_t, condB_f, ↓then_normal, ↓then_exit, ↓then_ret, ↓inBlock_exit, ↓inBlock_ret, ↓Fin_ret, pval, rd_S, rd_C, put_S, resV, resL, chkd, isAdr, bgot, AV.cells?, partA, eq_self, mk, List.foldl_cons, List.foldl_nil, List.replicate_succ, List.replicate_zero, List.set_cons_zero, List.set_cons_succ, List.getElem?_cons_zero, List.getElem?_cons_succ, List.drop_zero, List.take_zero, List.take_succ_cons, Option.getD_some, List.length_cons, List.length_nil, Nat.reduceAdd, Nat.reduceLeDiff, Nat.reduceEqDiff, Nat.zero_add, bin_add, bin_eql, bin_lss, w64, if_true, if_false, Bool.false_eq_true, decide_true, decide_false, true_and, hltk', hL.len, htk, h6]
                exact gc_same (by rw [kE_row h12 (mem_lists hm) (rOK_false (fun hh => hsz.1 h6 hh.2.2))])
              · simp (maxSteps := 4000000) -implicitDefEqProofs -dsimp (disch := omega) only [↓AW_skip, ↓AW_ops, ↓AW_seq, ↓AW_cond, ↓AW_exit, ↓AW_ret, ↓AOps_nil, ↓AOps_pu, on_some, condB_f, ↓then_normal, ↓then_exit, ↓inBlock_normal, ↓inBlock_exit, ↓Fin_ret, pval, rd_S, rd_C, put_S, resV, resL, chkd, isAdr, bgot, AV.cells?, partA, eq_self, mk, List.foldl_cons, List.foldl_nil, List.replicate_succ, List.replicate_zero, List.set_cons_zero, List.set_cons_succ, List.getElem?_cons_zero, List.getElem?_cons_succ, List.drop_zero, List.take_zero, List.take_succ_cons, Option.getD_some, List.length_cons, List.length_nil, Nat.reduceAdd, Nat.reduceLeDiff, Nat.reduceEqDiff, Nat.zero_add, bin_add, bin_eql, bin_lss, w64, if_true, if_false, Bool.false_eq_true, decide_false, true_and, hltk', hL.len, htk, h6]
                refine ⟨o + 1, ⟨hlt, fun u hu => ?_⟩, by simp [Has, rd_s], by omega⟩
                rcases (take_mem hz).1 hu with hu | rfl
                · exact he2 u hu
                · exact rOK_iff.2 ⟨by omega, hv, Classical.byContradiction fun hn => h6 (hsz.2 hn)⟩
          · simp (maxSteps := 4000000) -implicitDefEqProofs -dsimp (disch := omega) only [↓AW_skip, ↓AW_ops, ↓AW_seq, ↓AW_cond, ↓AW_block, ↓AW_ret, ↓AOps_nil, ↓AOps_pu, ↓AOps_ld, on_some, condB_t, ↓then_normal, ↓then_ret, ↓inBlock_ret, ↓Fin_ret, pval, lval, rd_S, rd_C, put_S, resV, resL, chkd, isAdr, bgot, AV.cells?, partA, eq_self, mk, List.foldl_cons, List.foldl_nil, List.replicate_succ, List.replicate_zero, List.set_cons_zero, List.set_cons_succ, List.getElem?_cons_zero, List.getElem?_cons_succ, List.drop_zero, List.drop_succ_cons, List.take_zero, List.take_succ_cons, List.take_nil, Option.getD_some, List.length_cons, List.length_nil, Nat.reduceAdd, Nat.reduceLeDiff, Nat.zero_add, bin_neq, bin_lss, if_true, if_false, Bool.false_eq_true, decide_true, not_false_eq_true, hlt', hV.ls.len, hV.ls.idx hlt, hV.ls.ld0 hz 1 false (by decide), e0, hx.len, hL.len, h4]
            refine gc_same ?_
            rw [kE_row h12 (mem_lists hm) (rOK_false (fun hh => h4 (by omega)))]
        · have hlt' : ¬ ((o : Int) < ws.length) := by omega
          simp (maxSteps := 4000000) -implicitDefEqProofs -dsimp (disch := omega) only [↓AW_ops, ↓AW_seq, ↓AW_cond, ↓AW_exit, ↓AW_ret, ↓AOps_nil, ↓AOps_pu, on_some, condB_f, ↓then_normal, ↓then_exit, ↓inBlock_exit, ↓Fin_ret, pval, rd_S, rd_C, put_S, resV, resL, chkd, isAdr, bgot, AV.cells?, partA, eq_self, mk, List.foldl_cons, List.foldl_nil, List.replicate_succ, List.replicate_zero, List.set_cons_zero, List.set_cons_succ, List.getElem?_cons_zero, List.getElem?_cons_succ, List.drop_zero, List.drop_succ_cons, List.take_succ_cons, List.take_nil, Option.getD_some, List.length_cons, List.length_nil, Nat.reduceAdd, Nat.reduceLeDiff, Nat.zero_add, bin_lss, if_true, if_false, Bool.false_eq_true, decide_false, hlt', hV.ls.len]
          rw [List.take_of_length_le (by omega)] at he2
          refine gc_same ?_
          rw [kE_ok h12 (List.all_eq_true.2 he) (List.all_eq_true.2 fun r hr => by obtain ⟨w, hw, rfl⟩ := List.mem_map.1 hr; exact he2 w hw)]
    · simp (maxSteps := 4000000) -implicitDefEqProofs -dsimp (disch := omega) only [↓AW_ops, ↓AW_seq, ↓AW_cond, ↓AW_ret, ↓AOps_nil, ↓AOps_pu, ↓AOps_guard, on_some, extK_same, guardB_ff, condB_t, ↓then_normal, ↓then_ret, ↓Fin_ret, pval, rd_S, rd_C, put_S, resV, resL, List.replicate_succ, List.replicate_zero, List.set_cons_zero, List.set_cons_succ, List.getElem?_cons_zero, List.getElem?_cons_succ, Option.getD_some, Nat.reduceSub, List.cons_append, List.nil_append, if_false, Bool.false_eq_true, Bool.not_false, decide_false, h2]
      exact gc_same (by rw [kE_large (by omega)])
  · simp (maxSteps := 4000000) -implicitDefEqProofs -dsimp (disch := omega) only [↓AW_ops, ↓AW_seq, ↓AW_cond, ↓AW_ret, ↓AOps_nil, ↓AOps_pu, ↓AOps_guard, on_some, extK_same, guardB_tf, skipS_some, condB_t, ↓then_normal, ↓then_ret, ↓Fin_ret, pval, rd_S, rd_C, put_S, resV, resL, eq_self, List.replicate_succ, List.replicate_zero, List.set_cons_zero, List.set_cons_succ, List.getElem?_cons_zero, List.getElem?_cons_succ, Option.getD_some, Nat.reduceSub, List.cons_append, List.nil_append, if_true, Bool.not_false, decide_false, h1]
    exact gc_same (by rw [kE_large (by omega)])
end
end Go.Proofs.Ytmblehbjedpjoaa

namespace Go.Proofs.Ytmblehbjedpjoaa
open Go Go.Eng
section
variable {L : List Int} {ws : List (AV × List Int)} {x y : AV} {A : AHeap}
theorem KG.take {V : List (List Int)} (h : KG L V) (i : Nat) : 0 ≤ (L.take i).sum ∧ (L.take i).sum ≤ 120 := by
  have := take_sumB (us := L) (fun n hn => by have := h.ls n hn; omega) i
  have := h.l6
  omega
theorem KG.sum {V : List (List Int)} (h : KG L V) : 1 ≤ L.sum ∧ L.sum ≤ 120 := by
  have h1 := h.take L.length
  rw [List.take_length] at h1
  refine ⟨?_, h1.2⟩
  have hl := h.l1
  have hls := h.ls
  cases L with
  | nil => simp at hl
  | cons a l =>
    have h2 := hls a (by simp)
    have h3 := sumB (l := l) (fun n hn => by have := hls n (by simp [hn]); omega)
    rw [List.sum_cons]
    omega
theorem c_end (hL : L1 A x L) (h : KG L (lists ws)) : ACalls Try.prog 77 [.agg [x, y]] A (I L.sum) A := by
  refine acalls hmix Try.func77 (by kernel_rfl) t77 1 rfl (by decide) ?_
  have h6 := h.l6
  dsimp only [m77]
  simp (maxSteps := 4000000) -implicitDefEqProofs -dsimp (disch := omega) only [↓AW_ops, ↓AW_seq, ↓AW_block, ↓AOps_nil, ↓AOps_pu, on_some, ↓then_normal, pval, rd_S, rd_C, put_S, ↓AW_toLoop, chkd, isAdr, bgot, AV.cells?, partA, eq_self, List.replicate_succ, List.replicate_zero, List.set_cons_zero, List.set_cons_succ, List.getElem?_cons_zero, List.getElem?_cons_succ, List.drop_zero, List.take_zero, List.take_succ_cons, Option.getD_some, List.length_cons, List.length_nil, Nat.reduceAdd, Nat.reduceSub, Nat.reduceLeDiff, Nat.zero_add, List.cons_append, List.nil_append, if_true, if_false, Bool.false_eq_true, hL.len]
  refine LoopK.by 18 (fun i : Nat => i ≤ L.length) (fun i => [(3, I (L.take i).sum), (7, x), (8, I L.length), (9, I i)]) (fun _ => A) (fun i => L.length - i) 0 (by omega) rfl (by simp [Has, rd_s]) rfl ?_
  intro i hi
  by_cases hlt : i < L.length
  · obtain ⟨n, hz⟩ : ∃ z, L[i]? = some z := ⟨_, List.getElem?_eq_getElem hlt⟩
    have hlt' : (i : Int) < L.length := by omega
    have hb := h.take i
    have hn := h.ls n (List.mem_of_getElem? hz)
    simp (maxSteps := 4000000) -implicitDefEqProofs -dsimp (disch := omega) only [↓AW_skip, ↓AW_ops, ↓AW_seq, ↓AW_cond, ↓AW_block, ↓AOps_nil, ↓AOps_pu, ↓AOps_ld, on_some, condB_t, ↓then_normal, ↓inBlock_normal, pval, lval, rd_S, rd_C, put_S, partA, eq_self, mk, List.foldl_cons, List.foldl_nil, List.replicate_succ, List.replicate_zero, List.set_cons_zero, List.set_cons_succ, List.getElem?_cons_zero, List.getElem?_cons_succ, List.drop_zero, List.take_succ_cons, List.take_nil, Option.getD_some, List.length_cons, List.length_nil, Nat.reduceAdd, Nat.reduceLeDiff, Nat.zero_add, bin_add, bin_lss, w64, if_true, if_false, Bool.false_eq_true, decide_true, Go.Eng.e1, true_and, hlt', hL.idx hlt, hL.ld0 hz 1 false (by decide)]
    exact ⟨i + 1, hlt, by simp [Has, rd_s, take_sum_succ' hz], by omega⟩
  · have hlt' : ¬ ((i : Int) < L.length) := by omega
    simp (maxSteps := 4000000) -implicitDefEqProofs -dsimp (disch := omega) only [↓AW_ops, ↓AW_seq, ↓AW_cond, ↓AW_exit, ↓AW_ret, ↓AOps_nil, ↓AOps_pu, on_some, condB_f, ↓then_normal, ↓then_exit, ↓inBlock_exit, ↓Fin_ret, pval, rd_S, put_S, resV, resL, eq_self, mk, List.foldl_cons, List.foldl_nil, List.replicate_succ, List.replicate_zero, List.set_cons_zero, List.set_cons_succ, List.getElem?_cons_zero, List.getElem?_cons_succ, Option.getD_some, bin_lss, if_true, decide_false, hlt']
    rw [List.take_of_length_le (by omega)]
    exact gc_same rfl
theorem c_whole (hL : L1 A x L) (hV : LL A y ws) (h : KG L (lists ws)) {o : Nat} {w : AV × List Int} (ho : ws[o]? = some w) : ACalls Try.prog 60 [.agg [x, y], I o] A (I (tot (L.zip w.2))) A := by
  refine acalls hmix Try.func60 (by kernel_rfl) t60 2 rfl (by decide) ?_
  have h6 := h.l6
  have hm := List.mem_of_getElem? ho
  have hmr := mem_lists hm
  have hx := hV.inn w hm
  have hol : o < ws.length := (List.getElem?_eq_some_iff.1 ho).1
  have hrl := h.rl _ hmr
  have hg := h.gd hmr
  dsimp only [m60]
  simp (maxSteps := 4000000) -implicitDefEqProofs -dsimp (disch := omega) only [↓AW_ops, ↓AW_seq, ↓AW_block, ↓AOps_nil, ↓AOps_pu, on_some, ↓then_normal, pval, rd_S, rd_C, put_S, ↓AW_toLoop, chkd, isAdr, bgot, AV.cells?, partA, eq_self, List.replicate_succ, List.replicate_zero, List.set_cons_zero, List.set_cons_succ, List.getElem?_cons_zero, List.getElem?_cons_succ, List.drop_zero, List.take_zero, List.take_succ_cons, Option.getD_some, List.length_cons, List.length_nil, Nat.reduceAdd, Nat.reduceSub, Nat.reduceLeDiff, Nat.zero_add, List.cons_append, List.nil_append, if_true, if_false, Bool.false_eq_true, hL.len]
  refine LoopK.by 30 (fun i : Nat => i ≤ L.length) (fun i => [(1, I o), (2, .agg [x, y]), (5, I (tot ((L.zip w.2).take i))), (9, x), (10, I L.length), (11, I i)]) (fun _ => A) (fun i => L.length - i) 0 (by omega) rfl (by simp [Has, rd_s, tot, sumZ]) rfl ?_
  intro i hi
  by_cases hlt : i < L.length
  · obtain ⟨n, hz⟩ : ∃ z, L[i]? = some z := ⟨_, List.getElem?_eq_getElem hlt⟩
    have hlt' : (i : Int) < L.length := by omega
    have hlw : i < w.2.length := by omega
    obtain ⟨v, hv⟩ : ∃ v, w.2[i]? = some v := ⟨_, List.getElem?_eq_getElem hlw⟩
    have hb := tot_bound (good_take hg i)
    have hn := h.ls n (List.mem_of_getElem? hz)
    have hvv := h.rv _ hmr v (List.mem_of_getElem? hv)
    have ht := tot_take (zip_at hz hv)
    have hm1 : 0 ≤ n * v ∧ n * v ≤ 400 := ⟨Int.mul_nonneg (by omega) (by omega), Int.mul_le_mul hn.2 hvv.2 (by omega) (by omega)⟩
    simp (maxSteps := 4000000) -implicitDefEqProofs -dsimp (disch := omega) only [↓AW_skip, ↓AW_ops, ↓AW_seq, ↓AW_cond, ↓AW_block, ↓AOps_nil, ↓AOps_pu, ↓AOps_ld, on_some, condB_t, ↓then_normal, ↓inBlock_normal, pval, lval, rd_S, rd_C, put_S, chkd, isAdr, bgot, AV.cells?, partA, eq_self, mk, List.foldl_cons, List.foldl_nil, List.replicate_succ, List.replicate_zero, List.set_cons_zero, List.set_cons_succ, List.getElem?_cons_zero, List.getElem?_cons_succ, List.drop_zero, List.drop_succ_cons, List.take_succ_cons, List.take_nil, Option.getD_some, List.length_cons, List.length_nil, Nat.reduceAdd, Nat.reduceLeDiff, Nat.zero_add, bin_add, bin_mul, bin_lss, w64, if_true, if_false, Bool.false_eq_true, decide_true, Go.Eng.e1, true_and, hlt', hL.idx hlt, hL.ld0 hz 1 false (by decide), hV.ls.idx hol, hV.ls.ld0 ho 1 false (by decide), e0, hx.idx hlw, hx.ld0 hv 1 false (by decide)]
    exact ⟨i + 1, hlt, by simp [Has, rd_s, ht], by omega⟩
  · have hlt' : ¬ ((i : Int) < L.length) := by omega
    simp (maxSteps := 4000000) -implicitDefEqProofs -dsimp (disch := omega) only [↓AW_ops, ↓AW_seq, ↓AW_cond, ↓AW_exit, ↓AW_ret, ↓AOps_nil, ↓AOps_pu, on_some, condB_f, ↓then_normal, ↓then_exit, ↓inBlock_exit, ↓Fin_ret, pval, rd_S, put_S, resV, resL, eq_self, mk, List.foldl_cons, List.foldl_nil, List.replicate_succ, List.replicate_zero, List.set_cons_zero, List.set_cons_succ, List.getElem?_cons_zero, List.getElem?_cons_succ, Option.getD_some, bin_lss, if_true, decide_false, hlt']
    rw [List.take_of_length_le (by rw [h.zlen hmr]; omega)]
    exact gc_same rfl
theorem c_units (hL : L1 A x L) (hV : LL A y ws) (h : KG L (lists ws)) {o : Nat} {w : AV × List Int} (ho : ws[o]? = some w) :
    ACalls Try.prog 68 [.agg [x, y], I o] A (outV 1 A (units (L.zip w.2)).length) (outH A ((units (L.zip w.2)).flatMap e1) (units (L.zip w.2)).length) := by
  refine acalls hmix Try.func68 (by kernel_rfl) t68 2 rfl (by decide) ?_
  have h6 := h.l6
  have hm := List.mem_of_getElem? ho
  have hmr := mem_lists hm
  have hol : o < ws.length := (List.getElem?_eq_some_iff.1 ho).1
  have hrl := h.rl _ hmr
  have hg := h.gd hmr
  dsimp only [m68]
  simp (maxSteps := 4000000) -implicitDefEqProofs -dsimp (disch := omega) only [↓AW_ops, ↓AW_seq, ↓AW_block, ↓AOps_nil, ↓AOps_pu, on_some, ↓then_normal, pval, rd_S, rd_C, put_S, ↓AW_toLoop, AV.cells?, List.replicate_succ, List.replicate_zero, List.set_cons_zero, List.set_cons_succ, List.getElem?_cons_zero, Option.getD_some, Nat.reduceSub, List.cons_append, List.nil_append]
  refine LoopK.by 36 (fun z : Nat × AV × AHeap => z.1 ≤ L.length ∧ AccL 1 e1 A z.2.2 z.2.1 (units ((L.zip w.2).take z.1))) (fun z => [(1, I o), (2, .agg [x, y]), (5, z.2.1), (6, I z.1)]) (fun z => z.2.2) (fun z => L.length - z.1) (0, .nilS, A) ⟨by omega, AccL.nil (List.prefix_refl _)⟩ rfl (by simp [Has, rd_s]) rfl ?_
  rintro ⟨i, u, A1⟩ ⟨hi, hu⟩
  simp only at hi hu
  have hL1 := hL.mono hu.pre
  by_cases hlt : i < L.length
  · obtain ⟨n, hz⟩ : ∃ z, L[i]? = some z := ⟨_, List.getElem?_eq_getElem hlt⟩
    have hlt' : (i : Int) < L.length := by omega
    have hlw : i < w.2.length := by omega
    obtain ⟨v, hv⟩ : ∃ v, w.2[i]? = some v := ⟨_, List.getElem?_eq_getElem hlw⟩
    have hn := h.ls n (List.mem_of_getElem? hz)
    have hzv := zip_at hz hv
    have hb := len_bound (good_take hg i)
    have hb' := len_units (good_take hg i).2
    simp (maxSteps := 4000000) -implicitDefEqProofs -dsimp (disch := omega) only [↓AW_skip, ↓AW_ops, ↓AW_seq, ↓AW_cond, ↓AW_block, ↓AOps_nil, ↓AOps_pu, on_some, condB_t, ↓then_normal, pval, rd_S, rd_C, put_S, ↓AW_toLoop, chkd, isAdr, bgot, AV.cells?, partA, eq_self, mk, List.foldl_cons, List.foldl_nil, List.replicate_succ, List.replicate_zero, List.set_cons_zero, List.set_cons_succ, List.getElem?_cons_zero, List.getElem?_cons_succ, List.drop_zero, List.take_zero, List.take_succ_cons, Option.getD_some, List.length_cons, List.length_nil, Nat.reduceAdd, Nat.reduceLeDiff, Nat.zero_add, bin_lss, if_true, if_false, Bool.false_eq_true, decide_true, hlt', hL1.len]
    refine LoopK.by 36 (fun z : Nat × AV × AHeap => (z.1 : Int) ≤ n ∧ AccL 1 e1 A z.2.2 z.2.1 (units ((L.zip w.2).take i) ++ List.replicate z.1 v)) (fun z => [(1, I o), (2, .agg [x, y]), (5, z.2.1), (6, I i), (7, I z.1)]) (fun z => z.2.2) (fun z => n.toNat - z.1) (0, u, A1) ⟨by simp; omega, by simpa using hu⟩ rfl (by simp [Has, rd_s]) rfl ?_
    rintro ⟨k, u2, A2⟩ ⟨hk, hu2⟩
    simp only at hk hu2
    have hL2 := hL.mono hu2.pre
    have hV2 := hV.mono hu2.pre
    have hx2 := hV2.inn w hm
    by_cases hkz : (k : Int) < n
    · obtain ⟨u3, A3, happ, hu3⟩ := hu2.push e1_len v (by simp [lim]; omega)
      simp only [e1] at happ
      simp (maxSteps := 4000000) -implicitDefEqProofs -dsimp (disch := omega) only [↓AW_skip, ↓AW_ops, ↓AW_seq, ↓AW_cond, ↓AW_block, ↓AOps_nil, ↓AOps_pu, ↓AOps_ld, ↓AOps_ha, on_some, extK_false, extK_app, condB_t, ↓then_normal, ↓inBlock_normal, pval, lval, hval, rd_S, rd_C, put_S, chkd, isAdr, bgot, AV.cells?, splice, partA, fillA, repl, eq_self, mk, List.foldl_cons, List.foldl_nil, List.replicate_succ, List.replicate_zero, List.set_cons_zero, List.set_cons_succ, List.getElem?_cons_zero, List.getElem?_cons_succ, List.drop_zero, List.drop_succ_cons, List.drop_nil, List.take_zero, List.take_succ_cons, List.take_nil, Option.getD_some, map_c, map_n, List.length_cons, List.length_nil, Nat.reduceAdd, Nat.reduceLeDiff, Nat.zero_add, List.nil_append, List.append_nil, bin_add, bin_lss, w64, if_true, if_false, Bool.false_eq_true, decide_true, Go.Eng.e1, true_and, and_true, hkz, hL2.idx hlt, hL2.ld0 hz 1 false (by decide), hV2.ls.idx hol, hV2.ls.ld0 ho 1 false (by decide), e0, hx2.idx hlw, hx2.ld0 hv 1 false (by decide), happ]
      exact ⟨(k + 1, u3, A3), ⟨by simp only; omega, by rw [List.replicate_succ', ← List.append_assoc]; exact hu3⟩, by simp [Has, rd_s], rfl, by simp only; omega⟩
    · simp (maxSteps := 4000000) -implicitDefEqProofs -dsimp (disch := omega) only [↓AW_ops, ↓AW_seq, ↓AW_cond, ↓AW_exit, ↓AW_ret, ↓AOps_nil, ↓AOps_pu, ↓AOps_ld, on_some, condB_f, ↓then_normal, ↓then_exit, ↓inBlock_normal, ↓inBlock_exit, ↓Fin_ret, pval, lval, rd_S, rd_C, put_S, resV, resL, chkd, isAdr, bgot, AV.cells?, partA, eq_self, mk, List.foldl_cons, List.foldl_nil, List.replicate_succ, List.replicate_zero, List.set_cons_zero, List.set_cons_succ, List.getElem?_cons_zero, List.getElem?_cons_succ, List.drop_zero, List.take_zero, List.take_succ_cons, List.take_nil, Option.getD_some, List.length_cons, List.length_nil, Nat.reduceAdd, Nat.reduceLeDiff, Nat.reduceEqDiff, Nat.zero_add, bin_add, bin_lss, w64, if_true, if_false, Bool.false_eq_true, decide_false, Go.Eng.e1, true_and, reduceCtorEq, hkz, hL2.idx hlt, hL2.ld0 hz 1 false (by decide)]
      have hkz' : k = n.toNat := by omega
      subst hkz'
      exact ⟨(i + 1, u2, A2), ⟨hlt, by rw [units_take hzv]; exact hu2⟩, by simp [Has, rd_s], rfl, by simp only; omega⟩
  · have hlt' : ¬ ((i : Int) < L.length) := by omega
    simp (maxSteps := 4000000) -implicitDefEqProofs -dsimp (disch := omega) only [↓AW_ops, ↓AW_seq, ↓AW_cond, ↓AW_exit, ↓AW_ret, ↓AOps_nil, ↓AOps_pu, on_some, condB_f, ↓then_normal, ↓then_exit, ↓inBlock_exit, ↓Fin_ret, pval, rd_S, put_S, resV, resL, chkd, isAdr, bgot, AV.cells?, partA, eq_self, mk, List.foldl_cons, List.foldl_nil, List.replicate_succ, List.replicate_zero, List.set_cons_zero, List.set_cons_succ, List.getElem?_cons_zero, List.getElem?_cons_succ, List.drop_zero, List.take_zero, List.take_succ_cons, Option.getD_some, List.length_cons, List.length_nil, Nat.reduceAdd, Nat.reduceLeDiff, Nat.zero_add, bin_lss, if_true, if_false, Bool.false_eq_true, decide_false, hlt', hL1.len]
    rw [List.take_of_length_le (by rw [h.zlen hmr]; omega)] at hu
    exact hu.gc flat_e1
/-- What the document's list of units is. -/
theorem units_ls (A : AHeap) (f : List (Int × Int)) : L1 (outH A ((units f).flatMap e1) (units f).length) (outV 1 A (units f).length) (units f) := Ls_out A e1_len (units f)
theorem c_all (hL : L1 A x L) (hV : LL A y ws) (h : KG L (lists ws)) {o : Nat} {w : AV × List Int} (ho : ws[o]? = some w) : ACalls Try.prog 79 [.agg [x, y], I o] A (I (tot (L.zip w.2))) A := by
  refine acalls hmix Try.func79 (by kernel_rfl) t79 2 rfl (by decide) ?_
  have hmr := mem_lists (List.mem_of_getElem? ho)
  have hg := h.gd hmr
  dsimp only [m79]
  simp (maxSteps := 4000000) -implicitDefEqProofs -dsimp (disch := omega) only [↓AW_ops, ↓AW_seq, ↓AOps_nil, ↓AOps_pu, ↓AOps_call, on_some, ↓then_normal, pval, rd_S, rd_C, put_S, chkd, bgot, AV.cells?, partA, eq_self, List.replicate_succ, List.replicate_zero, List.set_cons_zero, List.set_cons_succ, List.getElem?_cons_zero, List.getElem?_cons_succ, List.drop_zero, List.take_succ_cons, List.take_nil, Option.getD_some, map_c, map_n, List.length_cons, List.length_nil, Nat.reduceAdd, Nat.reduceSub, Nat.reduceLeDiff, Nat.reduceEqDiff, Nat.zero_add, List.cons_append, List.nil_append, if_true, if_false]
  refine CallK.of (c_units hL hV h ho) ?_
  have hu := units_ls A (L.zip w.2)
  have hp := pre_out A ((units (L.zip w.2)).flatMap e1) (units (L.zip w.2)).length
  simp (maxSteps := 4000000) -implicitDefEqProofs -dsimp (disch := omega) only [↓AW_ops, ↓AW_seq, ↓AW_block, ↓AOps_nil, ↓AOps_pu, on_some, extK_false, ↓then_normal, pval, rd_S, rd_C, put_S, ↓AW_toLoop, List.replicate_succ, List.replicate_zero, List.set_cons_zero, List.set_cons_succ, List.getElem?_cons_zero, List.getElem?_cons_succ, Option.getD_some, Nat.reduceSub, List.cons_append, List.nil_append]
  generalize outV 1 A (units (L.zip w.2)).length = u at *
  generalize outH A ((units (L.zip w.2)).flatMap e1) (units (L.zip w.2)).length = A1 at *
  have hl := len_units hg.2
  have hb := len_bound hg
  have hs := sum_units hg.2
  have hub := units_le hg.2
  generalize hU : units (L.zip w.2) = U at *
  refine LoopK.by 24 (fun i : Nat => i ≤ U.length) (fun i => [(5, I (U.take i).sum), (6, u), (7, I i)]) (fun _ => A1) (fun i => U.length - i) 0 (by omega) rfl (by simp [Has, rd_s]) rfl ?_
  intro i hi
  by_cases hlt : i < U.length
  · obtain ⟨n, hz⟩ : ∃ z, U[i]? = some z := ⟨_, List.getElem?_eq_getElem hlt⟩
    have hlt' : (i : Int) < U.length := by omega
    have b1 := take_sumB hub i
    have b4 := hub n (List.mem_of_getElem? hz)
    simp (maxSteps := 4000000) -implicitDefEqProofs -dsimp (disch := omega) only [↓AW_skip, ↓AW_ops, ↓AW_seq, ↓AW_cond, ↓AW_block, ↓AOps_nil, ↓AOps_pu, ↓AOps_ld, on_some, condB_t, ↓then_normal, ↓inBlock_normal, pval, lval, rd_S, rd_C, put_S, partA, eq_self, mk, List.foldl_cons, List.foldl_nil, List.replicate_succ, List.replicate_zero, List.set_cons_zero, List.set_cons_succ, List.getElem?_cons_zero, List.getElem?_cons_succ, List.drop_zero, List.take_succ_cons, List.take_nil, Option.getD_some, List.length_cons, List.length_nil, Nat.reduceAdd, Nat.reduceLeDiff, Nat.zero_add, bin_add, bin_lss, w64, if_true, if_false, Bool.false_eq_true, decide_true, Go.Eng.e1, true_and, hlt', hu.len, hu.idx hlt, hu.ld0 hz 1 false (by decide)]
    exact ⟨i + 1, hlt, by simp [Has, rd_s, take_sum_succ' hz], by omega⟩
  · have hlt' : ¬ ((i : Int) < U.length) := by omega
    simp (maxSteps := 4000000) -implicitDefEqProofs -dsimp (disch := omega) only [↓AW_ops, ↓AW_seq, ↓AW_cond, ↓AW_exit, ↓AW_ret, ↓AOps_nil, ↓AOps_pu, on_some, condB_f, ↓then_normal, ↓then_exit, ↓inBlock_exit, ↓Fin_ret, pval, rd_S, put_S, resV, resL, eq_self, mk, List.foldl_cons, List.foldl_nil, List.replicate_succ, List.replicate_zero, List.set_cons_zero, List.set_cons_succ, List.getElem?_cons_zero, List.getElem?_cons_succ, Option.getD_some, bin_lss, if_true, decide_false, hlt', hu.len]
    refine gc_val hp ?_
    rw [List.take_of_length_le (by omega), hs]
    rfl
theorem first_row {ws : List (AV × List Int)} (h : KG L (lists ws)) : ∃ w, ws[0]? = some w := by
  have := h.v1
  have h2 : (lists ws).length = ws.length := by simp
  exact ⟨_, List.getElem?_eq_getElem (by omega)⟩
theorem c_rend (hL : L1 A x L) (hV : LL A y ws) (h : KG L (lists ws)) : ACalls Try.prog 87 [.agg [x, y]] A (R ((L.sum : Int) : Rat)) A := by
  refine acalls hmix Try.func87 (by kernel_rfl) t87 1 rfl (by decide) ?_
  obtain ⟨w, ho⟩ := first_row h
  have hmr := mem_lists (List.mem_of_getElem? ho)
  have hg := h.gd hmr
  dsimp only [m87]
  simp (maxSteps := 4000000) -implicitDefEqProofs -dsimp (disch := omega) only [↓AW_ops, ↓AW_seq, ↓AOps_nil, ↓AOps_pu, ↓AOps_call, on_some, ↓then_normal, pval, rd_S, rd_C, put_S, chkd, bgot, AV.cells?, partA, eq_self, List.replicate_succ, List.replicate_zero, List.set_cons_zero, List.set_cons_succ, List.getElem?_cons_zero, List.getElem?_cons_succ, List.drop_zero, List.take_succ_cons, List.take_nil, Option.getD_some, map_c, map_n, List.length_cons, List.length_nil, Nat.reduceAdd, Nat.reduceSub, Nat.reduceLeDiff, Nat.reduceEqDiff, Nat.zero_add, List.cons_append, List.nil_append, if_true, if_false]
  have hc := c_units hL hV h ho
  rw [show ((0 : Nat) : Int) = 0 from rfl] at hc
  refine CallK.of hc ?_
  have hu := units_ls A (L.zip w.2)
  have hp := pre_out A ((units (L.zip w.2)).flatMap e1) (units (L.zip w.2)).length
  simp (maxSteps := 4000000) -implicitDefEqProofs -dsimp (disch := omega) only [↓AOps_pu, ↓AOps_call, on_some, extK_false, pval, rd_S, put_S, List.replicate_succ, List.replicate_zero, List.set_cons_zero, List.set_cons_succ, List.getElem?_cons_zero, List.getElem?_cons_succ, Option.getD_some, map_c, map_n, Nat.reduceSub, List.cons_append, List.nil_append, hu.len]
  refine CallK.of (s36 _ _) ?_
  simp (maxSteps := 4000000) -implicitDefEqProofs -dsimp (disch := omega) only [↓AW_ret, ↓AOps_nil, ↓AOps_pu, on_some, extK_same, ↓then_normal, ↓Fin_ret, pval, rd_S, put_S, resV, resL, chkd, bput, bgot, AV.cells?, splice, partA, eq_self, List.replicate_succ, List.replicate_zero, List.set_cons_zero, List.set_cons_succ, List.getElem?_cons_zero, List.getElem?_cons_succ, List.drop_zero, List.drop_succ_cons, List.drop_nil, List.take_zero, List.take_succ_cons, List.take_nil, Option.getD_some, List.length_cons, List.length_nil, Nat.reduceAdd, Nat.reduceSub, Nat.reduceLeDiff, Nat.reduceEqDiff, Nat.zero_add, List.cons_append, List.nil_append, List.append_nil, if_true, if_false, ne_eq, not_true_eq_false]
  rw [len_units hg.2, h.lenz hmr]
  exact gc_val hp rfl
/-- A place of a field. -/
def isK (L : List Int) (r : Int × Int) : Prop := ((1 ≤ r.2 ∧ r.2 ≤ 1000000) ∧ Int.gcd r.1 r.2 = 1) ∧ (0 ≤ r.1 ∧ r.1 ≤ L.sum * r.2)
instance (r : Int × Int) : Decidable (isK L r) := by unfold isK; exact inferInstance
theorem c_isK (hL : L1 A x L) (h : KG L (lists ws)) (r : Int × Int) (hr : W r.1) : ACalls Try.prog 51 [.agg [x, y], .agg [I r.1, I r.2]] A (B (decide (isK L r))) A := by
  refine acalls hmix Try.func51 (by kernel_rfl) t51 2 rfl (by decide) ?_
  have hs := h.sum
  dsimp only [m51]
  simp (maxSteps := 4000000) -implicitDefEqProofs -dsimp (disch := omega) only [↓AW_ops, ↓AW_seq, ↓AOps_nil, ↓AOps_pu, ↓AOps_call, on_some, ↓then_normal, pval, rd_S, rd_C, put_S, chkd, bgot, AV.cells?, partA, eq_self, List.replicate_succ, List.replicate_zero, List.set_cons_zero, List.set_cons_succ, List.getElem?_cons_zero, List.getElem?_cons_succ, List.drop_zero, List.take_succ_cons, List.take_nil, Option.getD_some, map_c, map_n, List.length_cons, List.length_nil, Nat.reduceAdd, Nat.reduceSub, Nat.reduceLeDiff, Nat.reduceEqDiff, Nat.zero_add, List.cons_append, List.nil_append, if_true, if_false]
  refine CallK.of (s105 r 1000000 A hr (by omega)) ?_
  by_cases h1 : (1 ≤ r.2 ∧ r.2 ≤ 1000000) ∧ Int.gcd r.1 r.2 = 1
  · have hm := mul_bound (x := L.sum) (y := r.2) (X := 120) (Y := 1000000) (by omega) (by omega)
    simp (maxSteps := 4000000) -implicitDefEqProofs -dsimp (disch := omega) only [↓AOps_pu, ↓AOps_call, ↓AOps_guard, on_some, extK_same, guardB_tt, pval, rd_S, put_S, chkd, isAdr, bgot, AV.cells?, partA, eq_self, List.replicate_succ, List.replicate_zero, List.set_cons_zero, List.set_cons_succ, List.getElem?_cons_zero, List.getElem?_cons_succ, List.drop_zero, List.take_zero, List.take_succ_cons, List.take_nil, Option.getD_some, map_c, map_n, List.length_cons, List.length_nil, Nat.reduceAdd, Nat.reduceSub, Nat.reduceLeDiff, Nat.reduceEqDiff, Nat.zero_add, List.cons_append, List.nil_append, if_true, if_false, Bool.false_eq_true, decide_true, and_true, h1]
    refine CallK.of (c_end (y := y) hL h) ?_
    simp (maxSteps := 4000000) -implicitDefEqProofs -dsimp (disch := omega) only [↓AOps_pu, ↓AOps_call, ↓AOps_guard, on_some, extK_same, guardB_tt, pval, rd_S, rd_C, put_S, chkd, isAdr, bgot, AV.cells?, partA, eq_self, List.replicate_succ, List.replicate_zero, List.set_cons_zero, List.set_cons_succ, List.getElem?_cons_zero, List.getElem?_cons_succ, List.drop_zero, List.drop_succ_cons, List.take_succ_cons, List.take_nil, Option.getD_some, map_c, map_n, List.length_cons, List.length_nil, Nat.reduceAdd, Nat.reduceSub, Nat.reduceLeDiff, Nat.zero_add, List.cons_append, List.nil_append, bin_mul, w64, if_true, if_false, Bool.false_eq_true]
    refine CallK.of (c_kw _ _ _ _) ?_
    simp (maxSteps := 4000000) -implicitDefEqProofs -dsimp (disch := omega) only [↓AW_ret, ↓AOps_nil, ↓AOps_pu, on_some, extK_same, ↓then_normal, ↓Fin_ret, pval, rd_S, rd_C, put_S, resV, resL, eq_self, List.replicate_succ, List.replicate_zero, List.set_cons_zero, List.set_cons_succ, List.getElem?_cons_zero, List.getElem?_cons_succ, Option.getD_some, Nat.reduceSub, List.cons_append, List.nil_append, if_true]
    exact gc_same (by congr 1; simp [isK, h1])
  · simp (maxSteps := 4000000) -implicitDefEqProofs -dsimp (disch := omega) only [↓AW_ret, ↓AOps_nil, ↓AOps_pu, ↓AOps_guard, on_some, extK_same, guardB_ft, skipS_some, ↓then_normal, ↓Fin_ret, pval, rd_S, rd_C, put_S, resV, resL, List.replicate_succ, List.replicate_zero, List.set_cons_zero, List.set_cons_succ, List.getElem?_cons_zero, List.getElem?_cons_succ, Option.getD_some, Nat.reduceSub, List.cons_append, List.nil_append, if_false, Bool.false_eq_true, decide_false, h1]
    exact gc_same (by congr 1; simp [isK, h1])
/-- Lists that are not long. -/
structure Sz (L : List Int) (ws : List (AV × List Int)) : Prop where
  l : L.length ≤ 1000000
  v : ws.length ≤ 1000000
  w : ∀ w ∈ ws, w.2.length ≤ 1000000
end
end Go.Proofs.Ytmblehbjedpjoaa

namespace Go.Proofs.Ytmblehbjedpjoaa
open Go Go.Eng
section
variable {L : List Int} {ws : List (AV × List Int)} {x y : AV} {A : AHeap}
theorem c_worth (hL : L1 A x L) (hV : LL A y ws) (h : KG L (lists ws)) {o : Nat} {w : AV × List Int} (ho : ws[o]? = some w) (p q : Rat) (hp : Pl (L.zip w.2) p) (hq : Pl (L.zip w.2) q) (hpq : p ≤ q) :
    ACalls Try.prog 66 [.agg [x, y], I o, R p, R q] A (R (upTo 0 (L.zip w.2) q - upTo 0 (L.zip w.2) p)) A := by
  refine acalls hmix Try.func66 (by kernel_rfl) t66 4 rfl (by decide) ?_
  have h6 := h.l6
  have hm := List.mem_of_getElem? ho
  have hmr := mem_lists hm
  have hx := hV.inn w hm
  have hol : o < ws.length := (List.getElem?_eq_some_iff.1 ho).1
  have hrl := h.rl _ hmr
  have hg := h.gd hmr
  have hlt0 := h.lenz_take hmr
  have hzl := h.zlen hmr
  dsimp only [m66]
  simp (maxSteps := 4000000) -implicitDefEqProofs -dsimp (disch := omega) only [↓AW_ops, ↓AW_seq, ↓AOps_nil, ↓AOps_pu, ↓AOps_call, on_some, ↓then_normal, pval, rd_S, rd_C, put_S, AV.cells?, List.replicate_succ, List.replicate_zero, List.set_cons_zero, List.set_cons_succ, List.getElem?_cons_zero, List.getElem?_cons_succ, Option.getD_some, map_c, map_n, Nat.reduceSub, List.cons_append, List.nil_append]
  refine CallK.of (s76 0 _) ?_
  simp (maxSteps := 4000000) -implicitDefEqProofs -dsimp (disch := omega) only [↓AW_ops, ↓AW_seq, ↓AW_block, ↓AOps_nil, ↓AOps_pu, on_some, extK_same, ↓then_normal, pval, rd_S, rd_C, put_S, ↓AW_toLoop, chkd, isAdr, bput, bgot, AV.cells?, splice, partA, eq_self, List.replicate_succ, List.replicate_zero, List.set_cons_zero, List.set_cons_succ, List.getElem?_cons_zero, List.getElem?_cons_succ, List.drop_zero, List.drop_succ_cons, List.drop_nil, List.take_zero, List.take_succ_cons, Option.getD_some, List.length_cons, List.length_nil, Nat.reduceAdd, Nat.reduceSub, Nat.reduceLeDiff, Nat.zero_add, List.cons_append, List.nil_append, List.append_nil, if_true, if_false, Bool.false_eq_true, ne_eq, not_true_eq_false, hL.len]
  refine LoopK.by 57 (fun z : Nat × Rat => z.1 ≤ L.length ∧ z.2 = upTo 0 ((L.zip w.2).take z.1) q - upTo 0 ((L.zip w.2).take z.1) p) (fun z => [(1, I o), (4, .agg [x, y]), (6, R p), (7, R q), (8, .agg [I 0, I 0]), (9, R z.2), (10, I (L.take z.1).sum), (17, x), (18, I L.length), (19, I z.1)]) (fun _ => A) (fun z => L.length - z.1) (0, ((0 : Int) : Rat)) ⟨by omega, by simp [upTo, Rat.sub_self]⟩ rfl (by simp [Has, rd_s]) rfl ?_
  rintro ⟨i, out⟩ ⟨hi, hout⟩
  simp only at hi hout
  by_cases hlt : i < L.length
  · obtain ⟨n, hz⟩ : ∃ z, L[i]? = some z := ⟨_, List.getElem?_eq_getElem hlt⟩
    have hlt' : (i : Int) < L.length := by omega
    have hlw : i < w.2.length := by omega
    obtain ⟨v, hv⟩ : ∃ v, w.2[i]? = some v := ⟨_, List.getElem?_eq_getElem hlw⟩
    have hzv := zip_at hz hv
    have hgt := good_take hg i
    have hn := h.ls n (List.mem_of_getElem? hz)
    have hvv := h.rv _ hmr v (List.mem_of_getElem? hv)
    have hvz : vz (n, v) = true := (vz_iff _).2 ⟨hn, hvv⟩
    have hlb := h.take i
    have hts := take_sum_succ' hz
    have hzp := zone_part hg hp hq hpq _ hgt (n, v) hvz _ _ rfl rfl
    have hup := upTo_take hzv p
    have huq := upTo_take hzv q
    rw [hlt0 i] at hzp hup huq
    have hpe := part_eq p q (((L.take i).sum : Int) : Rat) (((L.take i).sum + n : Int) : Rat) (v : Rat) hpq (Rat.intCast_le_intCast.2 (by omega))
    have hSb : Sm (((L.take i).sum : Int) : Rat) := Sm_int (by omega)
    have hSe : Sm (((L.take i).sum + n : Int) : Rat) := Sm_int (by omega)
    simp (maxSteps := 4000000) -implicitDefEqProofs -dsimp (disch := omega) only [↓AW_skip, ↓AW_ops, ↓AW_seq, ↓AW_cond, ↓AW_block, ↓AOps_nil, ↓AOps_pu, ↓AOps_ld, ↓AOps_call, on_some, condB_t, ↓then_normal, pval, lval, rd_S, put_S, chkd, bgot, partA, eq_self, mk, List.foldl_cons, List.foldl_nil, List.replicate_succ, List.replicate_zero, List.set_cons_zero, List.set_cons_succ, List.getElem?_cons_zero, List.getElem?_cons_succ, List.drop_zero, List.take_succ_cons, List.take_nil, Option.getD_some, map_c, map_n, List.length_cons, List.length_nil, Nat.reduceAdd, Nat.reduceLeDiff, Nat.reduceEqDiff, Nat.zero_add, bin_lss, if_true, if_false, Bool.false_eq_true, decide_true, Go.Eng.e1, hlt', hL.idx hlt, hL.ld0 hz 1 false (by decide)]
    refine CallK.of (s76 _ _) ?_
    simp (maxSteps := 4000000) -implicitDefEqProofs -dsimp (disch := omega) only [↓AOps_call, extK_same, rd_S, put_S, mk, List.foldl_cons, List.foldl_nil, List.replicate_succ, List.replicate_zero, List.set_cons_zero, List.set_cons_succ, List.getElem?_cons_zero, List.getElem?_cons_succ, Option.getD_some, map_c, map_n]
    refine CallK.of (s108 _ _ _ (hp.sm hg) hSb) ?_
    simp (maxSteps := 4000000) -implicitDefEqProofs -dsimp (disch := omega) only [↓AOps_pu, ↓AOps_call, on_some, extK_same, pval, rd_S, put_S, chkd, bgot, partA, eq_self, mk, List.foldl_cons, List.foldl_nil, List.replicate_succ, List.replicate_zero, List.set_cons_zero, List.set_cons_succ, List.getElem?_cons_zero, List.getElem?_cons_succ, List.drop_zero, List.take_succ_cons, List.take_nil, Option.getD_some, map_c, map_n, List.length_cons, List.length_nil, Nat.reduceAdd, Nat.reduceLeDiff, Nat.reduceEqDiff, Nat.zero_add, bin_add, w64, if_true, if_false]
    refine CallK.of (s76 _ _) ?_
    simp (maxSteps := 4000000) -implicitDefEqProofs -dsimp (disch := omega) only [↓AOps_call, extK_same, rd_S, put_S, mk, List.foldl_cons, List.foldl_nil, List.replicate_succ, List.replicate_zero, List.set_cons_zero, List.set_cons_succ, List.getElem?_cons_zero, List.getElem?_cons_succ, Option.getD_some, map_c, map_n]
    refine CallK.of (s113 _ _ _ (hq.sm hg) hSe) ?_
    simp (maxSteps := 4000000) -implicitDefEqProofs -dsimp (disch := omega) only [↓AW_ops, ↓AW_seq, ↓AOps_nil, ↓AOps_pu, ↓AOps_call, on_some, extK_same, ↓then_normal, pval, rd_S, rd_C, put_S, chkd, bput, bgot, AV.cells?, splice, partA, eq_self, mk, List.foldl_cons, List.foldl_nil, List.replicate_succ, List.replicate_zero, List.set_cons_zero, List.set_cons_succ, List.getElem?_cons_zero, List.getElem?_cons_succ, List.drop_zero, List.drop_succ_cons, List.drop_nil, List.take_zero, List.take_succ_cons, List.take_nil, Option.getD_some, map_c, map_n, List.length_cons, List.length_nil, Nat.reduceAdd, Nat.reduceLeDiff, Nat.reduceEqDiff, Nat.zero_add, List.nil_append, List.append_nil, if_true, if_false, ne_eq, not_true_eq_false]
    have hSlo : Sm (if (((L.take i).sum : Int) : Rat) < p then p else (((L.take i).sum : Int) : Rat)) := by
      split
      · exact hp.sm hg
      · exact hSb
    have hShi : Sm (if q < (((L.take i).sum + n : Int) : Rat) then q else (((L.take i).sum + n : Int) : Rat)) := by
      split
      · exact hq.sm hg
      · exact hSe
    generalize (if (((L.take i).sum : Int) : Rat) < p then p else (((L.take i).sum : Int) : Rat)) = lo at *
    generalize (if q < (((L.take i).sum + n : Int) : Rat) then q else (((L.take i).sum + n : Int) : Rat)) = hi' at *
    refine CallK.of (s65 lo hi' _ hSlo hShi) ?_
    by_cases hlh : lo < hi'
    · obtain ⟨_, f1, ⟨f2, f3⟩, f4⟩ := hzp hlh
      simp only at f2 f4
      rw [← hout] at f4
      have hneg := (sub_neg_iff lo hi').2 hlh
      simp (maxSteps := 4000000) -implicitDefEqProofs -dsimp (disch := omega) only [↓AW_ops, ↓AW_cond, ↓AOps_nil, ↓AOps_pu, ↓AOps_call, on_some, extK_same, condB_t, ↓then_normal, pval, rd_S, rd_C, put_S, chkd, bgot, partA, eq_self, mk, List.foldl_cons, List.foldl_nil, List.replicate_succ, List.replicate_zero, List.set_cons_zero, List.set_cons_succ, List.getElem?_cons_zero, List.getElem?_cons_succ, List.drop_zero, List.take_succ_cons, List.take_nil, Option.getD_some, map_c, map_n, List.length_cons, List.length_nil, Nat.reduceAdd, Nat.reduceLeDiff, Nat.reduceEqDiff, Nat.zero_add, bin_lss, if_true, if_false, decide_true, hneg]
      refine CallK.of (s95g _ _ _ f1) ?_
      simp (maxSteps := 4000000) -implicitDefEqProofs -dsimp (disch := omega) only [↓AOps_pu, ↓AOps_ld, ↓AOps_call, on_some, extK_same, pval, lval, rd_S, put_S, chkd, isAdr, bgot, AV.cells?, partA, eq_self, mk, List.foldl_cons, List.foldl_nil, List.replicate_succ, List.replicate_zero, List.set_cons_zero, List.set_cons_succ, List.getElem?_cons_zero, List.getElem?_cons_succ, List.drop_zero, List.drop_succ_cons, List.take_succ_cons, List.take_nil, Option.getD_some, map_c, map_n, List.length_cons, List.length_nil, Nat.reduceAdd, Nat.reduceLeDiff, Nat.zero_add, if_true, if_false, Bool.false_eq_true, Go.Eng.e1, hV.ls.idx hol, hV.ls.ld0 ho 1 false (by decide), e0, hx.idx hlw, hx.ld0 hv 1 false (by decide)]
      refine CallK.of (s109g _ _ _ f2 f3 (by omega)) ?_
      simp (maxSteps := 4000000) -implicitDefEqProofs -dsimp (disch := omega) only [↓AOps_call, extK_same, rd_S, put_S, mk, List.foldl_cons, List.foldl_nil, List.replicate_succ, List.replicate_zero, List.set_cons_zero, List.set_cons_succ, List.getElem?_cons_zero, List.getElem?_cons_succ, Option.getD_some, map_c, map_n]
      refine CallK.of (s75g _ _ _ f4) ?_
      simp (maxSteps := 4000000) -implicitDefEqProofs -dsimp (disch := omega) only [↓AW_ops, ↓AOps_nil, ↓AOps_pu, on_some, extK_same, ↓then_normal, ↓inBlock_normal, pval, rd_S, rd_C, put_S, chkd, bput, AV.cells?, splice, eq_self, mk, List.foldl_cons, List.foldl_nil, List.replicate_succ, List.replicate_zero, List.set_cons_zero, List.set_cons_succ, List.getElem?_cons_zero, List.getElem?_cons_succ, List.drop_succ_cons, List.drop_nil, List.take_zero, Option.getD_some, List.length_cons, List.length_nil, Nat.reduceAdd, Nat.reduceLeDiff, Nat.zero_add, List.nil_append, List.append_nil, bin_add, w64, if_true, if_false, true_and, ne_eq, not_true_eq_false]
      rw [if_pos hlh] at hpe
      refine ⟨(i + 1, out + (hi' - lo) * v), ⟨hlt, ?_⟩, by simp [Has, rd_s, hts], by simp only; omega⟩
      simp only
      rw [hup, huq, hpe, hout]
      grind
    · have hneg : ¬ (lo - hi').num < 0 := fun x => hlh ((sub_neg_iff lo hi').1 x)
      simp (maxSteps := 4000000) -implicitDefEqProofs -dsimp (disch := omega) only [↓AW_skip, ↓AW_ops, ↓AW_cond, ↓AOps_nil, ↓AOps_pu, on_some, extK_same, condB_f, ↓then_normal, ↓inBlock_normal, pval, rd_S, rd_C, put_S, eq_self, mk, List.foldl_cons, List.foldl_nil, List.replicate_succ, List.replicate_zero, List.set_cons_zero, List.set_cons_succ, List.getElem?_cons_zero, List.getElem?_cons_succ, Option.getD_some, List.length_cons, List.length_nil, Nat.reduceAdd, Nat.zero_add, bin_add, bin_lss, w64, decide_false, true_and, hneg]
      rw [if_neg hlh] at hpe
      refine ⟨(i + 1, out), ⟨hlt, ?_⟩, by simp [Has, rd_s, hts], by simp only; omega⟩
      simp only
      rw [hup, huq, hout]
      grind
  · have hlt' : ¬ ((i : Int) < L.length) := by omega
    simp (maxSteps := 4000000) -implicitDefEqProofs -dsimp (disch := omega) only [↓AW_ops, ↓AW_seq, ↓AW_cond, ↓AW_exit, ↓AW_ret, ↓AOps_nil, ↓AOps_pu, on_some, condB_f, ↓then_normal, ↓then_exit, ↓inBlock_exit, ↓Fin_ret, pval, rd_S, put_S, resV, resL, chkd, bput, bgot, AV.cells?, splice, partA, eq_self, mk, List.foldl_cons, List.foldl_nil, List.replicate_succ, List.replicate_zero, List.set_cons_zero, List.set_cons_succ, List.getElem?_cons_zero, List.getElem?_cons_succ, List.drop_zero, List.drop_succ_cons, List.drop_nil, List.take_zero, List.take_succ_cons, List.take_nil, Option.getD_some, List.length_cons, List.length_nil, Nat.reduceAdd, Nat.reduceLeDiff, Nat.reduceEqDiff, Nat.zero_add, List.nil_append, List.append_nil, bin_lss, if_true, if_false, decide_false, ne_eq, not_true_eq_false, hlt']
    rw [List.take_of_length_le (by omega)] at hout
    exact gc_same (by rw [hout])
end
def qr (r : Int × Int) : Rat := (r.1 : Rat) / (r.2 : Rat)
theorem isK_R {L : List Int} {V : List (List Int)} (h : KG L V) {r : Int × Int} (hk : isK L r) : AV.agg [I r.1, I r.2] = R (qr r) ∧ (qr r).num = r.1 ∧ ((qr r).den : Int) = r.2 ∧ ∀ row ∈ V, Pl (L.zip row) (qr r) := by
  obtain ⟨⟨⟨h1, h2⟩, h3⟩, h4, h5⟩ := hk
  have e := R_of (by omega) h3
  obtain ⟨e1, e2⟩ := R_inj e.symm
  refine ⟨e, e1, e2, fun row hr => ?_⟩
  unfold Pl
  rw [h.lenz hr]
  show (0 ≤ (qr r).num ∧ (qr r).num ≤ L.sum * ((qr r).den : Int)) ∧ ((qr r).den : Int) ≤ 1048576
  rw [show (qr r).num = r.1 from e1, show ((qr r).den : Int) = r.2 from e2]
  omega
section
variable {L : List Int} {ws : List (AV × List Int)} {x y : AV} {A : AHeap}
def rowOf (V : List (List Int)) (o : Int) : List Int := (V[o.toNat]?).getD []
theorem rowOf_at {o : Nat} {w : AV × List Int} (ho : ws[o]? = some w) : rowOf (lists ws) o = w.2 := by
  unfold rowOf
  simp [ho]
end
end Go.Proofs.Ytmblehbjedpjoaa

namespace Go.Proofs.Ytmblehbjedpjoaa
open Go Go.Eng
section
variable {L : List Int} {ws : List (AV × List Int)} {x y : AV} {A : AHeap}
end
end Go.Proofs.Ytmblehbjedpjoaa

namespace Go.Proofs.Ytmblehbjedpjoaa
open Go Go.Eng
/-- selion/selionlaw06.KnifeCalls [loop [3, 5, 9]] -/
def m3 : MFun := ⟨65, [2, 3], [.mov (.s 4)],
 .seq (.ops [⟨(some 2), some (.junk), none, false, .pu (.bnew (.s 0))⟩,
   ⟨(some 3), some (.junk), none, false, .pu (.bnew (.s 1))⟩,
   ⟨(some 4), some undefA, none, false, .pu (.mov (.c (.bool false)))⟩])
 (.seq (.seq (.ops [⟨(some 10), some undefA, none, false, .pu (.bget none 2 0 2 true)⟩,
   ⟨(some 11), some undefA, none, false, .call 13 [(.s 10)]⟩])
 (.cond (.s 11) (.seq (.ops [⟨(some 12), some undefA, none, false, .call 14 []⟩,
    ⟨(some 4), some undefA, none, false, .pu (.mov (.s 12))⟩])
  (.ret))
 (.skip)))
 (.seq (.ops [⟨(some 14), some undefA, none, false, .pu (.bget none 2 0 2 true)⟩,
   ⟨(some 15), some undefA, none, false, .pu (.bget none 3 0 2 true)⟩,
   ⟨(some 16), some undefA, none, false, .call 15 [(.s 14), (.s 15)]⟩,
   ⟨(some 13), some undefA, none, false, .pu (.mov (.s 16))⟩,
   ⟨(some 17), some undefA, none, false, .pu (.extr 0 (.s 13))⟩,
   ⟨(some 18), some undefA, none, false, .pu (.extr 1 (.s 13))⟩,
   ⟨(some 5), some undefA, none, false, .pu (.mov (.s 17))⟩,
   ⟨(some 6), some undefA, none, false, .pu (.mov (.s 18))⟩])
 (.seq (.ops [⟨(some 20), some undefA, none, false, .pu (.bget none 2 0 2 true)⟩,
   ⟨(some 21), some undefA, none, false, .pu (.bget none 3 0 2 true)⟩,
   ⟨(some 22), some undefA, none, false, .call 16 [(.s 20), (.s 21)]⟩,
   ⟨(some 19), some undefA, none, false, .pu (.mov (.s 22))⟩,
   ⟨(some 23), some undefA, none, false, .pu (.extr 0 (.s 19))⟩,
   ⟨(some 24), some undefA, none, false, .pu (.extr 1 (.s 19))⟩,
   ⟨(some 7), some undefA, none, false, .pu (.mov (.s 23))⟩,
   ⟨(some 8), some undefA, none, false, .pu (.mov (.s 24))⟩])
 (.seq (.seq (.ops [⟨(some 25), some undefA, none, false, .pu (.mov (.s 6))⟩,
   ⟨(some 26), some undefA, none, false, .pu (.mov (.s 8))⟩,
   ⟨(some 27), some undefA, none, false, .pu (.bin .neq (.s 25) (.s 26))⟩,
   ⟨(some 28), some undefA, none, false, .pu (.mov (.s 27))⟩,
   ⟨(some 29), some undefA, (some (28, false)), false, .pu (.mov (.s 5))⟩,
   ⟨(some 30), some undefA, (some (28, false)), false, .pu (.mov (.s 7))⟩,
   ⟨(some 31), some undefA, (some (28, false)), false, .call 17 [(.s 29), (.s 30)]⟩,
   ⟨(some 32), some undefA, (some (28, false)), false, .pu (.not (.s 31))⟩,
   ⟨(some 33), some undefA, none, false, .pu (.pick (.s 28) (.c (.bool true)) (.s 32))⟩])
 (.cond (.s 33) (.seq (.ops [⟨(some 4), some undefA, none, false, .pu (.mov (.c (.bool false)))⟩])
  (.ret))
 (.skip)))
 (.seq (.seq (.ops [⟨(some 9), some undefA, none, false, .pu (.mov (.c (.int .i64 0)))⟩])
 (.block 0 (.loop (.seq (.seq (.ops [⟨(some 34), some undefA, none, false, .pu (.mov (.s 9))⟩,
     ⟨(some 35), some undefA, none, false, .pu (.mov (.s 5))⟩,
     ⟨(some 36), some undefA, none, false, .pu (.len (.s 35))⟩,
     ⟨(some 37), some undefA, none, false, .pu (.bin .lss (.s 34) (.s 36))⟩])
   (.cond (.s 37) (.skip)
   (.exit 0)))
   (.seq (.block 1 (.seq (.ops [⟨(some 40), some undefA, none, false, .pu (.mov (.s 5))⟩,
      ⟨(some 41), some undefA, none, false, .pu (.mov (.s 9))⟩,
      ⟨(some 42), some undefA, none, false, .pu (.idx 2 (.s 40) (.s 41))⟩,
      ⟨(some 43), some undefA, none, false, .pu (.fad 1 (.s 42))⟩,
      ⟨(some 44), some undefA, none, true, .ld (.ld 1 false (.s 43))⟩,
      ⟨(some 45), some undefA, none, false, .pu (.bin .lss (.s 44) (.c (.int .i64 1)))⟩,
      ⟨(some 46), some undefA, none, false, .pu (.mov (.s 45))⟩,
      ⟨(some 47), some undefA, (some (46, false)), false, .pu (.badr none 3)⟩,
      ⟨(some 48), some undefA, (some (46, false)), false, .pu (.bget (some 47) 3 1 1 false)⟩,
      ⟨(some 49), some undefA, (some (46, false)), false, .pu (.bin .lss (.s 48) (.c (.int .i64 1)))⟩,
      ⟨(some 50), some undefA, none, false, .pu (.pick (.s 46) (.c (.bool true)) (.s 49))⟩,
      ⟨(some 51), some undefA, none, false, .pu (.mov (.s 50))⟩,
      ⟨(some 52), some undefA, (some (51, false)), false, .pu (.mov (.s 5))⟩,
      ⟨(some 53), some undefA, (some (51, false)), false, .call 18 [(.s 52)]⟩,
      ⟨(some 54), some undefA, (some (51, false)), false, .pu (.not (.s 53))⟩,
      ⟨(some 55), some undefA, none, false, .pu (.pick (.s 51) (.c (.bool true)) (.s 54))⟩,
      ⟨(some 56), some undefA, none, false, .pu (.mov (.s 55))⟩,
      ⟨(some 57), some undefA, (some (56, false)), false, .pu (.mov (.s 5))⟩,
      ⟨(some 58), some undefA, (some (56, false)), false, .pu (.mov (.s 9))⟩,
      ⟨(some 59), some undefA, (some (56, false)), false, .pu (.idx 2 (.s 57) (.s 58))⟩,
      ⟨(some 60), some undefA, (some (56, false)), true, .ld (.ld 2 true (.s 59))⟩,
      ⟨(some 61), some undefA, (some (56, false)), true, .pu (.bget none 3 0 2 true)⟩,
      ⟨(some 62), some undefA, (some (56, false)), false, .call 19 [(.s 60), (.s 61)]⟩,
      ⟨(some 63), some undefA, none, false, .pu (.pick (.s 56) (.c (.bool true)) (.s 62))⟩])
    (.cond (.s 63) (.seq (.ops [⟨(some 4), some undefA, none, false, .pu (.mov (.c (.bool false)))⟩])
     (.ret))
    (.skip))))
   (.ops [⟨(some 38), some undefA, none, false, .pu (.mov (.s 9))⟩,
     ⟨(some 39), some undefA, none, false, .pu (.bin .add (.s 38) (.c (.int .i64 1)))⟩,
     ⟨(some 9), some undefA, none, false, .pu (.mov (.s 39))⟩]))))))
 (.seq (.ops [⟨(some 64), some undefA, none, false, .call 14 []⟩,
   ⟨(some 4), some undefA, none, false, .pu (.mov (.s 64))⟩])
 (.ret)))))))⟩
/-- selion/selionlaw06.KnifeMarks [] -/
def m4 : MFun := ⟨88, [3, 4, 5, 7, 10, 13, 15], [.mov (.s 6)],
 .seq (.ops [⟨(some 3), some (.junk), none, false, .pu (.bnew (.s 0))⟩,
   ⟨(some 4), some (.junk), none, false, .pu (.bnew (.s 1))⟩,
   ⟨(some 5), some (.junk), none, false, .pu (.bnew (.s 2))⟩,
   ⟨(some 6), some undefA, none, false, .pu (.mov (.c (.bool false)))⟩])
 (.seq (.seq (.ops [⟨(some 17), some undefA, none, false, .pu (.bget none 3 0 2 true)⟩,
   ⟨(some 18), some undefA, none, false, .call 13 [(.s 17)]⟩])
 (.cond (.s 18) (.seq (.ops [⟨(some 19), some undefA, none, false, .call 14 []⟩,
    ⟨(some 6), some undefA, none, false, .pu (.mov (.s 19))⟩])
  (.ret))
 (.skip)))
 (.seq (.ops [⟨(some 21), some undefA, none, false, .pu (.bget none 3 0 2 true)⟩,
   ⟨(some 22), some undefA, none, false, .pu (.badr none 4)⟩,
   ⟨(some 23), some undefA, none, false, .pu (.bget (some 22) 4 0 1 false)⟩,
   ⟨(some 24), some undefA, none, false, .pu (.badr none 4)⟩,
   ⟨(some 25), some undefA, none, false, .pu (.bget (some 24) 4 1 2 true)⟩,
   ⟨(some 26), some undefA, none, false, .pu (.badr none 5)⟩,
   ⟨(some 27), some undefA, none, false, .pu (.bget (some 26) 5 0 1 false)⟩,
   ⟨(some 28), some undefA, none, false, .pu (.badr none 5)⟩,
   ⟨(some 29), some undefA, none, false, .pu (.bget (some 28) 5 1 1 false)⟩,
   ⟨(some 30), some undefA, none, false, .call 20 [(.s 21), (.s 23), (.s 25), (.s 27), (.s 29)]⟩,
   ⟨(some 20), some undefA, none, false, .pu (.mov (.s 30))⟩,
   ⟨(some 31), some undefA, none, false, .pu (.extr 0 (.s 20))⟩,
   ⟨(some 32), some undefA, none, false, .pu (.extr 1 (.s 20))⟩,
   ⟨(some 33), some undefA, none, false, .pu (.extr 2 (.s 20))⟩,
   ⟨(some 7), some (.junk), none, false, .pu (.bnew (.c (.agg [.int .i64 0, .int .i64 0])))⟩,
   ⟨(some 7), none, none, false, .pu (.bset none 7 0 2 (.s 31))⟩,
   ⟨(some 8), some undefA, none, false, .pu (.mov (.s 32))⟩,
   ⟨(some 9), some undefA, none, false, .pu (.mov (.s 33))⟩])
 (.seq (.ops [⟨(some 35), some undefA, none, false, .pu (.bget none 3 0 2 true)⟩,
   ⟨(some 36), some undefA, none, false, .pu (.badr none 4)⟩,
   ⟨(some 37), some undefA, none, false, .pu (.bget (some 36) 4 0 1 false)⟩,
   ⟨(some 38), some undefA, none, false, .pu (.badr none 4)⟩,
   ⟨(some 39), some undefA, none, false, .pu (.bget (some 38) 4 1 2 true)⟩,
   ⟨(some 40), some undefA, none, false, .pu (.badr none 5)⟩,
   ⟨(some 41), some undefA, none, false, .pu (.bget (some 40) 5 0 1 false)⟩,
   ⟨(some 42), some undefA, none, false, .pu (.badr none 5)⟩,
   ⟨(some 43), some undefA, none, false, .pu (.bget (some 42) 5 1 1 false)⟩,
   ⟨(some 44), some undefA, none, false, .call 21 [(.s 35), (.s 37), (.s 39), (.s 41), (.s 43)]⟩,
   ⟨(some 34), some undefA, none, false, .pu (.mov (.s 44))⟩,
   ⟨(some 45), some undefA, none, false, .pu (.extr 0 (.s 34))⟩,
   ⟨(some 46), some undefA, none, false, .pu (.extr 1 (.s 34))⟩,
   ⟨(some 47), some undefA, none, false, .pu (.extr 2 (.s 34))⟩,
   ⟨(some 10), some (.junk), none, false, .pu (.bnew (.c (.agg [.int .i64 0, .int .i64 0])))⟩,
   ⟨(some 10), none, none, false, .pu (.bset none 10 0 2 (.s 45))⟩,
   ⟨(some 11), some undefA, none, false, .pu (.mov (.s 46))⟩,
   ⟨(some 12), some undefA, none, false, .pu (.mov (.s 47))⟩])
 (.seq (.ops [⟨(some 49), some undefA, none, false, .pu (.bget none 3 0 2 true)⟩,
   ⟨(some 50), some undefA, none, false, .pu (.badr none 4)⟩,
   ⟨(some 51), some undefA, none, false, .pu (.bget (some 50) 4 0 1 false)⟩,
   ⟨(some 52), some undefA, none, false, .call 22 [(.s 49), (.s 51)]⟩,
   ⟨(some 48), some undefA, none, false, .pu (.mov (.s 52))⟩,
   ⟨(some 53), some undefA, none, false, .pu (.extr 0 (.s 48))⟩,
   ⟨(some 54), some undefA, none, false, .pu (.extr 1 (.s 48))⟩,
   ⟨(some 13), some (.junk), none, false, .pu (.bnew (.c (.agg [.int .i64 0, .int .i64 0])))⟩,
   ⟨(some 13), none, none, false, .pu (.bset none 13 0 2 (.s 53))⟩,
   ⟨(some 14), some undefA, none, false, .pu (.mov (.s 54))⟩])
 (.seq (.ops [⟨(some 56), some undefA, none, false, .pu (.bget none 3 0 2 true)⟩,
   ⟨(some 57), some undefA, none, false, .pu (.badr none 4)⟩,
   ⟨(some 58), some undefA, none, false, .pu (.bget (some 57) 4 0 1 false)⟩,
   ⟨(some 59), some undefA, none, false, .call 23 [(.s 56), (.s 58)]⟩,
   ⟨(some 55), some undefA, none, false, .pu (.mov (.s 59))⟩,
   ⟨(some 60), some undefA, none, false, .pu (.extr 0 (.s 55))⟩,
   ⟨(some 61), some undefA, none, false, .pu (.extr 1 (.s 55))⟩,
   ⟨(some 15), some (.junk), none, false, .pu (.bnew (.c (.agg [.int .i64 0, .int .i64 0])))⟩,
   ⟨(some 15), none, none, false, .pu (.bset none 15 0 2 (.s 60))⟩,
   ⟨(some 16), some undefA, none, false, .pu (.mov (.s 61))⟩])
 (.seq (.ops [⟨(some 62), some undefA, none, false, .pu (.bget none 7 0 2 true)⟩,
   ⟨(some 63), some undefA, none, false, .pu (.bget none 10 0 2 true)⟩,
   ⟨(some 64), some undefA, none, false, .pu (.eqs false [true, true] (.s 62) (.s 63))⟩,
   ⟨(some 65), some undefA, none, false, .pu (.mov (.s 64))⟩,
   ⟨(some 66), some undefA, (some (65, true)), false, .pu (.mov (.s 8))⟩,
   ⟨(some 67), some undefA, (some (65, true)), false, .pu (.mov (.s 11))⟩,
   ⟨(some 68), some undefA, (some (65, true)), false, .pu (.eqb false (.s 66) (.s 67))⟩,
   ⟨(some 69), some undefA, none, false, .pu (.pick (.s 65) (.s 68) (.c (.bool false)))⟩,
   ⟨(some 70), some undefA, none, false, .pu (.mov (.s 69))⟩,
   ⟨(some 71), some undefA, (some (70, true)), false, .pu (.mov (.s 9))⟩,
   ⟨(some 72), some undefA, (some (70, true)), false, .pu (.mov (.s 12))⟩,
   ⟨(some 73), some undefA, (some (70, true)), false, .pu (.bin .eql (.s 71) (.s 72))⟩,
   ⟨(some 74), some undefA, none, false, .pu (.pick (.s 70) (.s 73) (.c (.bool false)))⟩,
   ⟨(some 75), some undefA, none, false, .pu (.mov (.s 74))⟩,
   ⟨(some 76), some undefA, (some (75, true)), false, .pu (.bget none 13 0 2 true)⟩,
   ⟨(some 77), some undefA, (some (75, true)), false, .pu (.bget none 15 0 2 true)⟩,
   ⟨(some 78), some undefA, (some (75, true)), false, .pu (.eqs false [true, true] (.s 76) (.s 77))⟩,
   ⟨(some 79), some undefA, none, false, .pu (.pick (.s 75) (.s 78) (.c (.bool false)))⟩,
   ⟨(some 80), some undefA, none, false, .pu (.mov (.s 79))⟩,
   ⟨(some 81), some undefA, (some (80, true)), false, .pu (.mov (.s 14))⟩,
   ⟨(some 82), some undefA, (some (80, true)), false, .pu (.mov (.s 16))⟩,
   ⟨(some 83), some undefA, (some (80, true)), false, .pu (.bin .eql (.s 81) (.s 82))⟩,
   ⟨(some 84), some undefA, none, false, .pu (.pick (.s 80) (.s 83) (.c (.bool false)))⟩,
   ⟨(some 85), some undefA, none, false, .pu (.mov (.s 84))⟩,
   ⟨(some 86), some undefA, (some (85, true)), false, .call 14 []⟩,
   ⟨(some 87), some undefA, none, false, .pu (.pick (.s 85) (.s 86) (.c (.bool false)))⟩,
   ⟨(some 6), some undefA, none, false, .pu (.mov (.s 87))⟩])
 (.ret)))))))⟩
/-- selion/selionlaw06.KnifeWorths [] -/
def m5 : MFun := ⟨52, [2, 3, 5, 7], [.mov (.s 4)],
 .seq (.ops [⟨(some 2), some (.junk), none, false, .pu (.bnew (.s 0))⟩,
   ⟨(some 3), some (.junk), none, false, .pu (.bnew (.s 1))⟩,
   ⟨(some 4), some undefA, none, false, .pu (.mov (.c (.bool false)))⟩])
 (.seq (.seq (.ops [⟨(some 9), some undefA, none, false, .pu (.bget none 2 0 2 true)⟩,
   ⟨(some 10), some undefA, none, false, .call 13 [(.s 9)]⟩])
 (.cond (.s 10) (.seq (.ops [⟨(some 11), some undefA, none, false, .call 14 []⟩,
    ⟨(some 4), some undefA, none, false, .pu (.mov (.s 11))⟩])
  (.ret))
 (.skip)))
 (.seq (.ops [⟨(some 13), some undefA, none, false, .pu (.bget none 2 0 2 true)⟩,
   ⟨(some 14), some undefA, none, false, .pu (.badr none 3)⟩,
   ⟨(some 15), some undefA, none, false, .pu (.bget (some 14) 3 0 1 false)⟩,
   ⟨(some 16), some undefA, none, false, .pu (.badr none 3)⟩,
   ⟨(some 17), some undefA, none, false, .pu (.bget (some 16) 3 1 2 true)⟩,
   ⟨(some 18), some undefA, none, false, .pu (.badr none 3)⟩,
   ⟨(some 19), some undefA, none, false, .pu (.bget (some 18) 3 3 2 true)⟩,
   ⟨(some 20), some undefA, none, false, .call 24 [(.s 13), (.s 15), (.s 17), (.s 19)]⟩,
   ⟨(some 12), some undefA, none, false, .pu (.mov (.s 20))⟩,
   ⟨(some 21), some undefA, none, false, .pu (.extr 0 (.s 12))⟩,
   ⟨(some 22), some undefA, none, false, .pu (.extr 1 (.s 12))⟩,
   ⟨(some 5), some (.junk), none, false, .pu (.bnew (.c (.agg [.int .i64 0, .int .i64 0])))⟩,
   ⟨(some 5), none, none, false, .pu (.bset none 5 0 2 (.s 21))⟩,
   ⟨(some 6), some undefA, none, false, .pu (.mov (.s 22))⟩])
 (.seq (.ops [⟨(some 24), some undefA, none, false, .pu (.bget none 2 0 2 true)⟩,
   ⟨(some 25), some undefA, none, false, .pu (.badr none 3)⟩,
   ⟨(some 26), some undefA, none, false, .pu (.bget (some 25) 3 0 1 false)⟩,
   ⟨(some 27), some undefA, none, false, .pu (.badr none 3)⟩,
   ⟨(some 28), some undefA, none, false, .pu (.bget (some 27) 3 1 2 true)⟩,
   ⟨(some 29), some undefA, none, false, .pu (.badr none 3)⟩,
   ⟨(some 30), some undefA, none, false, .pu (.bget (some 29) 3 3 2 true)⟩,
   ⟨(some 31), some undefA, none, false, .call 25 [(.s 24), (.s 26), (.s 28), (.s 30)]⟩,
   ⟨(some 23), some undefA, none, false, .pu (.mov (.s 31))⟩,
   ⟨(some 32), some undefA, none, false, .pu (.extr 0 (.s 23))⟩,
   ⟨(some 33), some undefA, none, false, .pu (.extr 1 (.s 23))⟩,
   ⟨(some 7), some (.junk), none, false, .pu (.bnew (.c (.agg [.int .i64 0, .int .i64 0])))⟩,
   ⟨(some 7), none, none, false, .pu (.bset none 7 0 2 (.s 32))⟩,
   ⟨(some 8), some undefA, none, false, .pu (.mov (.s 33))⟩])
 (.seq (.ops [⟨(some 34), some undefA, none, false, .pu (.bget none 2 0 2 true)⟩,
   ⟨(some 35), some undefA, none, false, .call 26 [(.s 34)]⟩,
   ⟨(some 36), some undefA, none, false, .pu (.bget none 2 0 2 true)⟩,
   ⟨(some 37), some undefA, none, false, .call 27 [(.s 36)]⟩,
   ⟨(some 38), some undefA, none, false, .pu (.bin .eql (.s 35) (.s 37))⟩,
   ⟨(some 39), some undefA, none, false, .pu (.mov (.s 38))⟩,
   ⟨(some 40), some undefA, (some (39, true)), false, .pu (.bget none 5 0 2 true)⟩,
   ⟨(some 41), some undefA, (some (39, true)), false, .pu (.bget none 7 0 2 true)⟩,
   ⟨(some 42), some undefA, (some (39, true)), false, .pu (.eqs false [true, true] (.s 40) (.s 41))⟩,
   ⟨(some 43), some undefA, none, false, .pu (.pick (.s 39) (.s 42) (.c (.bool false)))⟩,
   ⟨(some 44), some undefA, none, false, .pu (.mov (.s 43))⟩,
   ⟨(some 45), some undefA, (some (44, true)), false, .pu (.mov (.s 6))⟩,
   ⟨(some 46), some undefA, (some (44, true)), false, .pu (.mov (.s 8))⟩,
   ⟨(some 47), some undefA, (some (44, true)), false, .pu (.bin .eql (.s 45) (.s 46))⟩,
   ⟨(some 48), some undefA, none, false, .pu (.pick (.s 44) (.s 47) (.c (.bool false)))⟩,
   ⟨(some 49), some undefA, none, false, .pu (.mov (.s 48))⟩,
   ⟨(some 50), some undefA, (some (49, true)), false, .call 14 []⟩,
   ⟨(some 51), some undefA, none, false, .pu (.pick (.s 49) (.s 50) (.c (.bool false)))⟩,
   ⟨(some 4), some undefA, none, false, .pu (.mov (.s 51))⟩])
 (.ret)))))⟩
/-- selion/selionlaw06.KnifeEvens [] -/
def m6 : MFun := ⟨59, [1], [.mov (.s 2)],
 .seq (.ops [⟨(some 1), some (.junk), none, false, .pu (.bnew (.s 0))⟩,
   ⟨(some 2), some undefA, none, false, .pu (.mov (.c (.bool false)))⟩])
 (.seq (.seq (.ops [⟨(some 9), some undefA, none, false, .pu (.bget none 1 0 2 true)⟩,
   ⟨(some 10), some undefA, none, false, .call 13 [(.s 9)]⟩])
 (.cond (.s 10) (.seq (.ops [⟨(some 11), some undefA, none, false, .call 14 []⟩,
    ⟨(some 2), some undefA, none, false, .pu (.mov (.s 11))⟩])
  (.ret))
 (.skip)))
 (.seq (.ops [⟨(some 13), some undefA, none, false, .pu (.bget none 1 0 2 true)⟩,
   ⟨(some 14), some undefA, none, false, .call 28 [(.s 13)]⟩,
   ⟨(some 12), some undefA, none, false, .pu (.mov (.s 14))⟩,
   ⟨(some 15), some undefA, none, false, .pu (.extr 0 (.s 12))⟩,
   ⟨(some 16), some undefA, none, false, .pu (.extr 1 (.s 12))⟩,
   ⟨(some 3), some undefA, none, false, .pu (.mov (.s 15))⟩,
   ⟨(some 4), some undefA, none, false, .pu (.mov (.s 16))⟩])
 (.seq (.ops [⟨(some 18), some undefA, none, false, .pu (.bget none 1 0 2 true)⟩,
   ⟨(some 19), some undefA, none, false, .call 29 [(.s 18)]⟩,
   ⟨(some 17), some undefA, none, false, .pu (.mov (.s 19))⟩,
   ⟨(some 20), some undefA, none, false, .pu (.extr 0 (.s 17))⟩,
   ⟨(some 21), some undefA, none, false, .pu (.extr 1 (.s 17))⟩,
   ⟨(some 5), some undefA, none, false, .pu (.mov (.s 20))⟩,
   ⟨(some 6), some undefA, none, false, .pu (.mov (.s 21))⟩])
 (.seq (.seq (.ops [⟨(some 22), some undefA, none, false, .pu (.mov (.s 4))⟩,
   ⟨(some 23), some undefA, none, false, .pu (.mov (.s 6))⟩,
   ⟨(some 24), some undefA, none, false, .pu (.bin .neq (.s 22) (.s 23))⟩,
   ⟨(some 25), some undefA, none, false, .pu (.mov (.s 24))⟩,
   ⟨(some 26), some undefA, (some (25, false)), false, .pu (.mov (.s 3))⟩,
   ⟨(some 27), some undefA, (some (25, false)), false, .pu (.mov (.s 5))⟩,
   ⟨(some 28), some undefA, (some (25, false)), false, .call 30 [(.s 26), (.s 27)]⟩,
   ⟨(some 29), some undefA, (some (25, false)), false, .pu (.not (.s 28))⟩,
   ⟨(some 30), some undefA, none, false, .pu (.pick (.s 25) (.c (.bool true)) (.s 29))⟩])
 (.cond (.s 30) (.seq (.ops [⟨(some 2), some undefA, none, false, .pu (.mov (.c (.bool false)))⟩])
  (.ret))
 (.skip)))
 (.seq (.seq (.ops [⟨(some 31), some undefA, none, false, .pu (.mov (.s 4))⟩,
   ⟨(some 32), some undefA, none, false, .pu (.bin .neq (.s 31) (.c (.int .i64 0)))⟩])
 (.cond (.s 32) (.seq (.ops [⟨(some 33), some undefA, none, false, .call 14 []⟩,
    ⟨(some 2), some undefA, none, false, .pu (.mov (.s 33))⟩])
  (.ret))
 (.skip)))
 (.seq (.ops [⟨(some 35), some undefA, none, false, .pu (.bget none 1 0 2 true)⟩,
   ⟨(some 36), some undefA, none, false, .pu (.mov (.s 3))⟩,
   ⟨(some 37), some undefA, none, false, .call 31 [(.s 35), (.s 36)]⟩,
   ⟨(some 34), some undefA, none, false, .pu (.mov (.s 37))⟩,
   ⟨(some 38), some undefA, none, false, .pu (.extr 0 (.s 34))⟩,
   ⟨(some 39), some undefA, none, false, .pu (.extr 1 (.s 34))⟩,
   ⟨(some 7), some undefA, none, false, .pu (.mov (.s 38))⟩,
   ⟨(some 8), some undefA, none, false, .pu (.mov (.s 39))⟩])
 (.seq (.ops [⟨(some 40), some undefA, none, false, .pu (.mov (.s 8))⟩,
   ⟨(some 41), some undefA, none, false, .pu (.bin .eql (.s 40) (.c (.int .i64 0)))⟩,
   ⟨(some 42), some undefA, none, false, .pu (.mov (.s 41))⟩,
   ⟨(some 43), some undefA, (some (42, true)), false, .pu (.mov (.s 7))⟩,
   ⟨(some 44), some undefA, (some (42, true)), false, .pu (.len (.s 43))⟩,
   ⟨(some 45), some undefA, (some (42, true)), false, .pu (.bin .eql (.s 44) (.c (.int .i64 2)))⟩,
   ⟨(some 46), some undefA, none, false, .pu (.pick (.s 42) (.s 45) (.c (.bool false)))⟩,
   ⟨(some 47), some undefA, none, false, .pu (.mov (.s 46))⟩,
   ⟨(some 48), some undefA, (some (47, true)), true, .pu (.mov (.s 7))⟩,
   ⟨(some 49), some undefA, (some (47, true)), true, .pu (.idx 2 (.s 48) (.c (.int .i64 0)))⟩,
   ⟨(some 50), some undefA, (some (47, true)), true, .ld (.ld 2 true (.s 49))⟩,
   ⟨(some 51), some undefA, (some (47, true)), true, .pu (.mov (.s 7))⟩,
   ⟨(some 52), some undefA, (some (47, true)), true, .pu (.idx 2 (.s 51) (.c (.int .i64 1)))⟩,
   ⟨(some 53), some undefA, (some (47, true)), true, .ld (.ld 2 true (.s 52))⟩,
   ⟨(some 54), some undefA, (some (47, true)), false, .pu (.eqs false [true, true] (.s 50) (.s 53))⟩,
   ⟨(some 55), some undefA, none, false, .pu (.pick (.s 47) (.s 54) (.c (.bool false)))⟩,
   ⟨(some 56), some undefA, none, false, .pu (.mov (.s 55))⟩,
   ⟨(some 57), some undefA, (some (56, true)), false, .call 14 []⟩,
   ⟨(some 58), some undefA, none, false, .pu (.pick (.s 56) (.s 57) (.c (.bool false)))⟩,
   ⟨(some 2), some undefA, none, false, .pu (.mov (.s 58))⟩])
 (.ret))))))))⟩
theorem t6 : trF Try.prog [1] [] Try.f6 = some m6 := by kernel_rfl
/-- selion/selionlaw06.KnifeKnives [] -/
def m7 : MFun := ⟨54, [1], [.mov (.s 2)],
 .seq (.ops [⟨(some 1), some (.junk), none, false, .pu (.bnew (.s 0))⟩,
   ⟨(some 2), some undefA, none, false, .pu (.mov (.c (.bool false)))⟩])
 (.seq (.seq (.ops [⟨(some 9), some undefA, none, false, .pu (.bget none 1 0 2 true)⟩,
   ⟨(some 10), some undefA, none, false, .call 13 [(.s 9)]⟩])
 (.cond (.s 10) (.seq (.ops [⟨(some 11), some undefA, none, false, .call 14 []⟩,
    ⟨(some 2), some undefA, none, false, .pu (.mov (.s 11))⟩])
  (.ret))
 (.skip)))
 (.seq (.ops [⟨(some 13), some undefA, none, false, .pu (.bget none 1 0 2 true)⟩,
   ⟨(some 14), some undefA, none, false, .call 32 [(.s 13)]⟩,
   ⟨(some 12), some undefA, none, false, .pu (.mov (.s 14))⟩,
   ⟨(some 15), some undefA, none, false, .pu (.extr 0 (.s 12))⟩,
   ⟨(some 16), some undefA, none, false, .pu (.extr 1 (.s 12))⟩,
   ⟨(some 3), some undefA, none, false, .pu (.mov (.s 15))⟩,
   ⟨(some 4), some undefA, none, false, .pu (.mov (.s 16))⟩])
 (.seq (.ops [⟨(some 18), some undefA, none, false, .pu (.bget none 1 0 2 true)⟩,
   ⟨(some 19), some undefA, none, false, .call 33 [(.s 18)]⟩,
   ⟨(some 17), some undefA, none, false, .pu (.mov (.s 19))⟩,
   ⟨(some 20), some undefA, none, false, .pu (.extr 0 (.s 17))⟩,
   ⟨(some 21), some undefA, none, false, .pu (.extr 1 (.s 17))⟩,
   ⟨(some 5), some undefA, none, false, .pu (.mov (.s 20))⟩,
   ⟨(some 6), some undefA, none, false, .pu (.mov (.s 21))⟩])
 (.seq (.seq (.ops [⟨(some 22), some undefA, none, false, .pu (.mov (.s 4))⟩,
   ⟨(some 23), some undefA, none, false, .pu (.mov (.s 6))⟩,
   ⟨(some 24), some undefA, none, false, .pu (.bin .neq (.s 22) (.s 23))⟩,
   ⟨(some 25), some undefA, none, false, .pu (.mov (.s 24))⟩,
   ⟨(some 26), some undefA, (some (25, false)), false, .pu (.mov (.s 3))⟩,
   ⟨(some 27), some undefA, (some (25, false)), false, .pu (.mov (.s 5))⟩,
   ⟨(some 28), some undefA, (some (25, false)), false, .call 30 [(.s 26), (.s 27)]⟩,
   ⟨(some 29), some undefA, (some (25, false)), false, .pu (.not (.s 28))⟩,
   ⟨(some 30), some undefA, none, false, .pu (.pick (.s 25) (.c (.bool true)) (.s 29))⟩])
 (.cond (.s 30) (.seq (.ops [⟨(some 2), some undefA, none, false, .pu (.mov (.c (.bool false)))⟩])
  (.ret))
 (.skip)))
 (.seq (.seq (.ops [⟨(some 31), some undefA, none, false, .pu (.mov (.s 4))⟩,
   ⟨(some 32), some undefA, none, false, .pu (.bin .neq (.s 31) (.c (.int .i64 0)))⟩])
 (.cond (.s 32) (.seq (.ops [⟨(some 33), some undefA, none, false, .call 14 []⟩,
    ⟨(some 2), some undefA, none, false, .pu (.mov (.s 33))⟩])
  (.ret))
 (.skip)))
 (.seq (.ops [⟨(some 35), some undefA, none, false, .pu (.bget none 1 0 2 true)⟩,
   ⟨(some 36), some undefA, none, false, .pu (.mov (.s 3))⟩,
   ⟨(some 37), some undefA, none, false, .call 34 [(.s 35), (.s 36)]⟩,
   ⟨(some 34), some undefA, none, false, .pu (.mov (.s 37))⟩,
   ⟨(some 38), some undefA, none, false, .pu (.extr 0 (.s 34))⟩,
   ⟨(some 39), some undefA, none, false, .pu (.extr 1 (.s 34))⟩,
   ⟨(some 7), some undefA, none, false, .pu (.mov (.s 38))⟩,
   ⟨(some 8), some undefA, none, false, .pu (.mov (.s 39))⟩])
 (.seq (.ops [⟨(some 40), some undefA, none, false, .pu (.bget none 1 0 2 true)⟩,
   ⟨(some 41), some undefA, none, false, .pu (.mov (.s 3))⟩,
   ⟨(some 42), some undefA, none, false, .call 35 [(.s 40), (.s 41)]⟩,
   ⟨(some 43), some undefA, none, false, .pu (.bin .eql (.s 42) (.c (.int .i64 0)))⟩,
   ⟨(some 44), some undefA, none, false, .pu (.mov (.s 43))⟩,
   ⟨(some 45), some undefA, (some (44, true)), false, .pu (.mov (.s 8))⟩,
   ⟨(some 46), some undefA, (some (44, true)), false, .pu (.bin .eql (.s 45) (.c (.int .i64 0)))⟩,
   ⟨(some 47), some undefA, none, false, .pu (.pick (.s 44) (.s 46) (.c (.bool false)))⟩,
   ⟨(some 48), some undefA, none, false, .pu (.mov (.s 47))⟩,
   ⟨(some 49), some undefA, (some (48, true)), false, .pu (.mov (.s 7))⟩,
   ⟨(some 50), some undefA, none, false, .pu (.pick (.s 48) (.s 49) (.c (.bool false)))⟩,
   ⟨(some 51), some undefA, none, false, .pu (.mov (.s 50))⟩,
   ⟨(some 52), some undefA, (some (51, true)), false, .call 14 []⟩,
   ⟨(some 53), some undefA, none, false, .pu (.pick (.s 51) (.s 52) (.c (.bool false)))⟩,
   ⟨(some 2), some undefA, none, false, .pu (.mov (.s 53))⟩])
 (.ret))))))))⟩
/-- selion/selionlaw06.KnifeSums [loop [1, 2, 3, 7, 8, 9], loop [1, 2, 3, 7, 8, 10]] -/
def m8 : MFun := ⟨123, [3, 7, 11, 13], [.mov (.s 6)],
 .seq (.ops [⟨(some 3), some (.junk), none, false, .pu (.bnew (.s 0))⟩,
   ⟨(some 6), some undefA, none, false, .pu (.mov (.c (.bool false)))⟩])
 (.seq (.seq (.ops [⟨(some 15), some undefA, none, false, .pu (.bget none 3 0 2 true)⟩,
   ⟨(some 16), some undefA, none, false, .call 13 [(.s 15)]⟩,
   ⟨(some 17), some undefA, none, false, .pu (.mov (.s 16))⟩,
   ⟨(some 18), some undefA, (some (17, false)), false, .pu (.mov (.s 1))⟩,
   ⟨(some 19), some undefA, (some (17, false)), false, .pu (.len (.s 18))⟩,
   ⟨(some 20), some undefA, (some (17, false)), false, .pu (.bin .gtr (.s 19) (.c (.int .i64 100)))⟩,
   ⟨(some 21), some undefA, none, false, .pu (.pick (.s 17) (.c (.bool true)) (.s 20))⟩,
   ⟨(some 22), some undefA, none, false, .pu (.mov (.s 21))⟩,
   ⟨(some 23), some undefA, (some (22, false)), false, .pu (.bget none 3 0 2 true)⟩,
   ⟨(some 24), some undefA, (some (22, false)), false, .pu (.mov (.s 1))⟩,
   ⟨(some 25), some undefA, (some (22, false)), false, .call 35 [(.s 23), (.s 24)]⟩,
   ⟨(some 26), some undefA, (some (22, false)), false, .pu (.bin .neq (.s 25) (.c (.int .i64 0)))⟩,
   ⟨(some 27), some undefA, none, false, .pu (.pick (.s 22) (.c (.bool true)) (.s 26))⟩,
   ⟨(some 28), some undefA, none, false, .pu (.mov (.s 27))⟩,
   ⟨(some 29), some undefA, (some (28, false)), false, .pu (.mov (.s 2))⟩,
   ⟨(some 30), some undefA, (some (28, false)), false, .pu (.bin .lss (.s 29) (.c (.int .i64 0)))⟩,
   ⟨(some 31), some undefA, none, false, .pu (.pick (.s 28) (.c (.bool true)) (.s 30))⟩,
   ⟨(some 32), some undefA, none, false, .pu (.mov (.s 31))⟩,
   ⟨(some 33), some undefA, (some (32, false)), false, .pu (.mov (.s 2))⟩,
   ⟨(some 34), some undefA, (some (32, false)), false, .pu (.badr none 3)⟩,
   ⟨(some 35), some undefA, (some (32, false)), false, .pu (.bget (some 34) 3 1 1 false)⟩,
   ⟨(some 36), some undefA, (some (32, false)), false, .pu (.len (.s 35))⟩,
   ⟨(some 37), some undefA, (some (32, false)), false, .pu (.bin .geq (.s 33) (.s 36))⟩,
   ⟨(some 38), some undefA, none, false, .pu (.pick (.s 32) (.c (.bool true)) (.s 37))⟩])
 (.cond (.s 38) (.seq (.ops [⟨(some 39), some undefA, none, false, .call 14 []⟩,
    ⟨(some 6), some undefA, none, false, .pu (.mov (.s 39))⟩])
  (.ret))
 (.skip)))
 (.seq (.ops [⟨(some 40), some undefA, none, false, .call 36 [(.c (.int .i64 0))]⟩,
   ⟨(some 7), some (.junk), none, false, .pu (.bnew (.c (.agg [.int .i64 0, .int .i64 0])))⟩,
   ⟨(some 7), none, none, false, .pu (.bset none 7 0 2 (.s 40))⟩,
   ⟨(some 8), some undefA, none, false, .pu (.mov (.c (.int .i64 0)))⟩])
 (.seq (.seq (.ops [⟨(some 9), some undefA, none, false, .pu (.mov (.c (.int .i64 0)))⟩])
 (.block 0 (.loop (.seq (.seq (.ops [⟨(some 41), some undefA, none, false, .pu (.mov (.s 9))⟩,
     ⟨(some 42), some undefA, none, false, .pu (.badr none 3)⟩,
     ⟨(some 43), some undefA, none, false, .pu (.bget (some 42) 3 0 1 false)⟩,
     ⟨(some 44), some undefA, none, false, .pu (.len (.s 43))⟩,
     ⟨(some 45), some undefA, none, false, .pu (.bin .lss (.s 41) (.s 44))⟩])
   (.cond (.s 45) (.skip)
   (.exit 0)))
   (.seq (.block 1 (.ops [⟨(some 48), some undefA, none, false, .pu (.mov (.s 8))⟩,
      ⟨(some 49), some undefA, none, false, .pu (.badr none 3)⟩,
      ⟨(some 50), some undefA, none, false, .pu (.bget (some 49) 3 0 1 false)⟩,
      ⟨(some 51), some undefA, none, false, .pu (.mov (.s 9))⟩,
      ⟨(some 52), some undefA, none, false, .pu (.idx 1 (.s 50) (.s 51))⟩,
      ⟨(some 53), some undefA, none, false, .ld (.ld 1 false (.s 52))⟩,
      ⟨(some 54), some undefA, none, false, .pu (.bin .add (.s 48) (.s 53))⟩,
      ⟨(some 8), some undefA, none, false, .pu (.mov (.s 54))⟩]))
   (.ops [⟨(some 46), some undefA, none, false, .pu (.mov (.s 9))⟩,
     ⟨(some 47), some undefA, none, false, .pu (.bin .add (.s 46) (.c (.int .i64 1)))⟩,
     ⟨(some 9), some undefA, none, false, .pu (.mov (.s 47))⟩]))))))
 (.seq (.seq (.ops [⟨(some 10), some undefA, none, false, .pu (.mov (.c (.int .i64 0)))⟩])
 (.block 2 (.loop (.seq (.seq (.ops [⟨(some 55), some undefA, none, false, .pu (.mov (.s 10))⟩,
     ⟨(some 56), some undefA, none, false, .pu (.mov (.s 1))⟩,
     ⟨(some 57), some undefA, none, false, .pu (.len (.s 56))⟩,
     ⟨(some 58), some undefA, none, false, .pu (.bin .lss (.s 55) (.s 57))⟩])
   (.cond (.s 58) (.skip)
   (.exit 2)))
   (.seq (.block 3 (.seq (.ops [⟨(some 62), some undefA, none, true, .pu (.bget none 3 0 2 true)⟩,
      ⟨(some 63), some undefA, none, true, .pu (.mov (.s 2))⟩,
      ⟨(some 64), some undefA, none, true, .pu (.mov (.s 1))⟩,
      ⟨(some 65), some undefA, none, true, .pu (.mov (.s 10))⟩,
      ⟨(some 66), some undefA, none, true, .pu (.idx 5 (.s 64) (.s 65))⟩,
      ⟨(some 67), some undefA, none, true, .pu (.fad 1 (.s 66))⟩,
      ⟨(some 68), some undefA, none, true, .ld (.ld 2 true (.s 67))⟩,
      ⟨(some 69), some undefA, none, true, .pu (.mov (.s 1))⟩,
      ⟨(some 70), some undefA, none, true, .pu (.mov (.s 10))⟩,
      ⟨(some 71), some undefA, none, true, .pu (.idx 5 (.s 69) (.s 70))⟩,
      ⟨(some 72), some undefA, none, true, .pu (.fad 3 (.s 71))⟩,
      ⟨(some 73), some undefA, none, true, .ld (.ld 2 true (.s 72))⟩,
      ⟨(some 74), some undefA, none, false, .call 24 [(.s 62), (.s 63), (.s 68), (.s 73)]⟩,
      ⟨(some 61), some undefA, none, false, .pu (.mov (.s 74))⟩,
      ⟨(some 75), some undefA, none, false, .pu (.extr 0 (.s 61))⟩,
      ⟨(some 76), some undefA, none, false, .pu (.extr 1 (.s 61))⟩,
      ⟨(some 11), some (.junk), none, true, .pu (.bnew (.c (.agg [.int .i64 0, .int .i64 0])))⟩,
      ⟨(some 11), none, none, false, .pu (.bset none 11 0 2 (.s 75))⟩,
      ⟨(some 12), some undefA, none, false, .pu (.mov (.s 76))⟩])
    (.seq (.seq (.ops [⟨(some 77), some undefA, none, false, .pu (.mov (.s 12))⟩,
      ⟨(some 78), some undefA, none, false, .pu (.bin .neq (.s 77) (.c (.int .i64 0)))⟩,
      ⟨(some 79), some undefA, none, false, .pu (.mov (.s 78))⟩,
      ⟨(some 80), some undefA, (some (79, false)), false, .pu (.badr none 11)⟩,
      ⟨(some 81), some undefA, (some (79, false)), false, .pu (.bget (some 80) 11 1 1 false)⟩,
      ⟨(some 82), some undefA, (some (79, false)), false, .pu (.bin .lss (.s 81) (.c (.int .i64 1)))⟩,
      ⟨(some 83), some undefA, none, false, .pu (.pick (.s 79) (.c (.bool true)) (.s 82))⟩,
      ⟨(some 84), some undefA, none, false, .pu (.mov (.s 83))⟩,
      ⟨(some 85), some undefA, (some (84, false)), false, .pu (.badr none 7)⟩,
      ⟨(some 86), some undefA, (some (84, false)), false, .pu (.bget (some 85) 7 1 1 false)⟩,
      ⟨(some 87), some undefA, (some (84, false)), false, .pu (.bin .lss (.s 86) (.c (.int .i64 1)))⟩,
      ⟨(some 88), some undefA, none, false, .pu (.pick (.s 84) (.c (.bool true)) (.s 87))⟩,
      ⟨(some 89), some undefA, none, false, .pu (.mov (.s 88))⟩,
      ⟨(some 90), some undefA, (some (89, false)), false, .pu (.bget none 11 0 2 true)⟩,
      ⟨(some 91), some undefA, (some (89, false)), false, .pu (.bget none 7 0 2 true)⟩,
      ⟨(some 92), some undefA, (some (89, false)), false, .ha (.blds 2 2 [.int .i64 0, .int .i64 0] [(0, 2, (.s 90)), (2, 2, (.s 91))])⟩,
      ⟨(some 93), some undefA, (some (89, false)), false, .call 18 [(.s 92)]⟩,
      ⟨(some 94), some undefA, (some (89, false)), false, .pu (.not (.s 93))⟩,
      ⟨(some 95), some undefA, none, false, .pu (.pick (.s 89) (.c (.bool true)) (.s 94))⟩,
      ⟨(some 96), some undefA, none, false, .pu (.mov (.s 95))⟩,
      ⟨(some 97), some undefA, (some (96, false)), false, .pu (.badr none 11)⟩,
      ⟨(some 98), some undefA, (some (96, false)), false, .pu (.bget (some 97) 11 0 1 false)⟩,
      ⟨(some 99), some undefA, (some (96, false)), false, .pu (.bin .lss (.s 98) (.c (.int .i64 0)))⟩,
      ⟨(some 100), some undefA, none, false, .pu (.pick (.s 96) (.c (.bool true)) (.s 99))⟩])
    (.cond (.s 100) (.seq (.ops [⟨(some 6), some undefA, none, false, .pu (.mov (.c (.bool false)))⟩])
     (.ret))
    (.skip)))
    (.ops [⟨(some 101), some undefA, none, false, .pu (.bget none 7 0 2 true)⟩,
      ⟨(some 102), some undefA, none, false, .pu (.bget none 11 0 2 true)⟩,
      ⟨(some 103), some undefA, none, false, .call 37 [(.s 101), (.s 102)]⟩,
      ⟨(some 7), none, none, false, .pu (.bset none 7 0 2 (.s 103))⟩]))))
   (.ops [⟨(some 59), some undefA, none, false, .pu (.mov (.s 10))⟩,
     ⟨(some 60), some undefA, none, false, .pu (.bin .add (.s 59) (.c (.int .i64 1)))⟩,
     ⟨(some 10), some undefA, none, false, .pu (.mov (.s 60))⟩]))))))
 (.seq (.ops [⟨(some 105), some undefA, none, false, .pu (.bget none 3 0 2 true)⟩,
   ⟨(some 106), some undefA, none, false, .pu (.mov (.s 2))⟩,
   ⟨(some 107), some undefA, none, false, .call 36 [(.c (.int .i64 0))]⟩,
   ⟨(some 108), some undefA, none, false, .pu (.mov (.s 8))⟩,
   ⟨(some 109), some undefA, none, false, .call 36 [(.s 108)]⟩,
   ⟨(some 110), some undefA, none, false, .call 24 [(.s 105), (.s 106), (.s 107), (.s 109)]⟩,
   ⟨(some 104), some undefA, none, false, .pu (.mov (.s 110))⟩,
   ⟨(some 111), some undefA, none, false, .pu (.extr 0 (.s 104))⟩,
   ⟨(some 112), some undefA, none, false, .pu (.extr 1 (.s 104))⟩,
   ⟨(some 13), some (.junk), none, false, .pu (.bnew (.c (.agg [.int .i64 0, .int .i64 0])))⟩,
   ⟨(some 13), none, none, false, .pu (.bset none 13 0 2 (.s 111))⟩,
   ⟨(some 14), some undefA, none, false, .pu (.mov (.s 112))⟩])
 (.seq (.ops [⟨(some 113), some undefA, none, false, .pu (.mov (.s 14))⟩,
   ⟨(some 114), some undefA, none, false, .pu (.bin .eql (.s 113) (.c (.int .i64 0)))⟩,
   ⟨(some 115), some undefA, none, false, .pu (.mov (.s 114))⟩,
   ⟨(some 116), some undefA, (some (115, true)), false, .pu (.bget none 7 0 2 true)⟩,
   ⟨(some 117), some undefA, (some (115, true)), false, .pu (.bget none 13 0 2 true)⟩,
   ⟨(some 118), some undefA, (some (115, true)), false, .pu (.eqs false [true, true] (.s 116) (.s 117))⟩,
   ⟨(some 119), some undefA, none, false, .pu (.pick (.s 115) (.s 118) (.c (.bool false)))⟩,
   ⟨(some 120), some undefA, none, false, .pu (.mov (.s 119))⟩,
   ⟨(some 121), some undefA, (some (120, true)), false, .call 14 []⟩,
   ⟨(some 122), some undefA, none, false, .pu (.pick (.s 120) (.s 121) (.c (.bool false)))⟩,
   ⟨(some 6), some undefA, none, false, .pu (.mov (.s 122))⟩])
 (.ret)))))))⟩
end Go.Proofs.Ytmblehbjedpjoaa

namespace Go.Proofs.Ytmblehbjedpjoaa
open Go Go.Eng
section
variable {L : List Int} {ws : List (AV × List Int)} {x y : AV} {A : AHeap}
def longK (L : List Int) (ws : List (AV × List Int)) : Prop := ((100 : Int) < L.length ∨ (100 : Int) < ws.length) ∨ ∃ w ∈ ws, (100 : Int) < w.2.length
instance (L : List Int) (ws : List (AV × List Int)) : Decidable (longK L ws) := by unfold longK; exact inferInstance
theorem Sz_of (h : ¬ longK L ws) : Sz L ws := by
  refine ⟨?_, ?_, fun w hw => ?_⟩
  · have : ¬ (100 : Int) < L.length := fun h1 => h (.inl (.inl h1))
    omega
  · have : ¬ (100 : Int) < ws.length := fun h1 => h (.inl (.inr h1))
    omega
  · have : ¬ (100 : Int) < w.2.length := fun h1 => h (.inr ⟨w, hw, h1⟩)
    omega
theorem c_Long (hL : L1 A x L) (hV : LL A y ws) (hl : ws.length ≤ 9223372036854775807) : ACalls Try.prog 13 [.agg [x, y]] A (B (decide (longK L ws))) A := by
  refine acalls hmix Try.func13 (by kernel_rfl) t13 1 rfl (by decide) ?_
  by_cases h1 : (100 : Int) < L.length
  · dsimp only [m13]
    simp (maxSteps := 4000000) -implicitDefEqProofs -dsimp (disch := omega) only [↓AW_ops, ↓AW_seq, ↓AW_cond, ↓AW_ret, ↓AOps_nil, ↓AOps_pu, ↓AOps_guard, on_some, guardB_tf, skipS_some, condB_t, ↓then_normal, ↓then_ret, ↓Fin_ret, pval, rd_S, rd_C, put_S, resV, resL, chkd, isAdr, bgot, AV.cells?, partA, eq_self, List.replicate_succ, List.replicate_zero, List.set_cons_zero, List.set_cons_succ, List.getElem?_cons_zero, List.getElem?_cons_succ, List.drop_zero, List.take_zero, List.take_succ_cons, Option.getD_some, List.length_cons, List.length_nil, Nat.reduceAdd, Nat.reduceSub, Nat.reduceLeDiff, Nat.zero_add, List.cons_append, List.nil_append, bin_gtr, if_true, if_false, Bool.false_eq_true, decide_true, hL.len, h1]
    exact gc_same (by rw [decide_eq_true (show longK L ws from .inl (.inl h1))])
  by_cases h2 : (100 : Int) < ws.length
  · dsimp only [m13]
    simp (maxSteps := 4000000) -implicitDefEqProofs -dsimp (disch := omega) only [↓AW_ops, ↓AW_seq, ↓AW_cond, ↓AW_ret, ↓AOps_nil, ↓AOps_pu, ↓AOps_guard, on_some, guardB_ff, condB_t, ↓then_normal, ↓then_ret, ↓Fin_ret, pval, rd_S, rd_C, put_S, resV, resL, chkd, isAdr, bgot, AV.cells?, partA, eq_self, List.replicate_succ, List.replicate_zero, List.set_cons_zero, List.set_cons_succ, List.getElem?_cons_zero, List.getElem?_cons_succ, List.drop_zero, List.drop_succ_cons, List.take_zero, List.take_succ_cons, List.take_nil, Option.getD_some, List.length_cons, List.length_nil, Nat.reduceAdd, Nat.reduceSub, Nat.reduceLeDiff, Nat.zero_add, List.cons_append, List.nil_append, bin_gtr, if_true, if_false, Bool.false_eq_true, decide_true, decide_false, hL.len, h1, hV.ls.len, h2]
    exact gc_same (by rw [decide_eq_true (show longK L ws from .inl (.inr h2))])
  dsimp only [m13]
  simp (maxSteps := 4000000) -implicitDefEqProofs -dsimp (disch := omega) only [↓AW_skip, ↓AW_ops, ↓AW_seq, ↓AW_cond, ↓AW_block, ↓AOps_nil, ↓AOps_pu, ↓AOps_guard, on_some, guardB_ff, condB_f, ↓then_normal, pval, rd_S, rd_C, put_S, ↓AW_toLoop, chkd, isAdr, bgot, AV.cells?, partA, eq_self, List.replicate_succ, List.replicate_zero, List.set_cons_zero, List.set_cons_succ, List.getElem?_cons_zero, List.getElem?_cons_succ, List.drop_zero, List.drop_succ_cons, List.take_zero, List.take_succ_cons, List.take_nil, Option.getD_some, List.length_cons, List.length_nil, Nat.reduceAdd, Nat.reduceSub, Nat.reduceLeDiff, Nat.zero_add, List.cons_append, List.nil_append, bin_gtr, if_true, if_false, Bool.false_eq_true, decide_false, hL.len, h1, hV.ls.len, h2]
  refine LoopK.by 28 (fun i : Nat => i ≤ ws.length ∧ ∀ w ∈ ws.take i, ¬ (100 : Int) < w.2.length) (fun i => [(1, .agg [x, y]), (3, I i)]) (fun _ => A) (fun i => ws.length - i) 0 ⟨by omega, by simp⟩ rfl (by simp [Has, rd_s]) rfl ?_
  rintro i ⟨hi, he⟩
  by_cases hlt : i < ws.length
  · obtain ⟨w, hz⟩ : ∃ z, ws[i]? = some z := ⟨_, List.getElem?_eq_getElem hlt⟩
    have hlt' : (i : Int) < ws.length := by omega
    have hm := List.mem_of_getElem? hz
    by_cases h : (100 : Int) < w.2.length
    · simp (maxSteps := 4000000) -implicitDefEqProofs -dsimp (disch := omega) only [↓AW_skip, ↓AW_ops, ↓AW_seq, ↓AW_cond, ↓AW_block, ↓AW_ret, ↓AOps_nil, ↓AOps_pu, ↓AOps_ld, on_some, condB_t, ↓then_normal, ↓then_ret, ↓inBlock_ret, ↓Fin_ret, pval, lval, rd_S, rd_C, put_S, resV, resL, chkd, isAdr, bgot, AV.cells?, partA, eq_self, mk, List.foldl_cons, List.foldl_nil, List.replicate_succ, List.replicate_zero, List.set_cons_zero, List.set_cons_succ, List.getElem?_cons_zero, List.getElem?_cons_succ, List.drop_zero, List.drop_succ_cons, List.take_succ_cons, List.take_nil, Option.getD_some, List.length_cons, List.length_nil, Nat.reduceAdd, Nat.reduceLeDiff, Nat.zero_add, bin_lss, bin_gtr, if_true, if_false, Bool.false_eq_true, decide_true, hlt', hV.ls.len, hV.ls.idx hlt, hV.ls.ld0 hz 1 false (by decide), e0, (hV.inn w hm).len, h]
      exact gc_same (by rw [decide_eq_true (show longK L ws from .inr ⟨w, hm, h⟩)])
    · simp (maxSteps := 4000000) -implicitDefEqProofs -dsimp (disch := omega) only [↓AW_skip, ↓AW_ops, ↓AW_seq, ↓AW_cond, ↓AW_block, ↓AOps_nil, ↓AOps_pu, ↓AOps_ld, on_some, condB_t, condB_f, ↓then_normal, ↓inBlock_normal, pval, lval, rd_S, rd_C, put_S, chkd, isAdr, bgot, AV.cells?, partA, eq_self, mk, List.foldl_cons, List.foldl_nil, List.replicate_succ, List.replicate_zero, List.set_cons_zero, List.set_cons_succ, List.getElem?_cons_zero, List.getElem?_cons_succ, List.drop_zero, List.drop_succ_cons, List.take_succ_cons, List.take_nil, Option.getD_some, List.length_cons, List.length_nil, Nat.reduceAdd, Nat.reduceLeDiff, Nat.zero_add, bin_add, bin_lss, bin_gtr, w64, if_true, if_false, Bool.false_eq_true, decide_true, decide_false, true_and, hlt', hV.ls.len, hV.ls.idx hlt, hV.ls.ld0 hz 1 false (by decide), e0, (hV.inn w hm).len, h]
      refine ⟨i + 1, ⟨hlt, fun u hu => ?_⟩, by simp [Has, rd_s], by omega⟩
      rcases (take_mem hz).1 hu with hu | rfl
      · exact he u hu
      · exact h
  · have hlt' : ¬ ((i : Int) < ws.length) := by omega
    simp (maxSteps := 4000000) -implicitDefEqProofs -dsimp (disch := omega) only [↓AW_ops, ↓AW_seq, ↓AW_cond, ↓AW_exit, ↓AW_ret, ↓AOps_nil, ↓AOps_pu, on_some, condB_f, ↓then_normal, ↓then_exit, ↓inBlock_exit, ↓Fin_ret, pval, rd_S, rd_C, put_S, resV, resL, chkd, isAdr, bgot, AV.cells?, partA, eq_self, mk, List.foldl_cons, List.foldl_nil, List.replicate_succ, List.replicate_zero, List.set_cons_zero, List.set_cons_succ, List.getElem?_cons_zero, List.getElem?_cons_succ, List.drop_zero, List.drop_succ_cons, List.take_succ_cons, List.take_nil, Option.getD_some, List.length_cons, List.length_nil, Nat.reduceAdd, Nat.reduceLeDiff, Nat.zero_add, bin_lss, if_true, if_false, Bool.false_eq_true, decide_false, hlt', hV.ls.len]
    rw [List.take_of_length_le (by omega)] at he
    refine gc_same ?_
    rw [decide_eq_false]
    rintro ((h | h) | ⟨w, hw, h⟩)
    · exact h1 h
    · exact h2 h
    · exact he w hw h
end
end Go.Proofs.Ytmblehbjedpjoaa

namespace Go.Proofs.Ytmblehbjedpjoaa
open Go Go.Eng
/-- A part of a field's worth. -/
def pw (f : List (Int × Int)) (n m : Int) : Rat := ((tot f * n : Int) : Rat) / (m : Rat)
section
variable {L : List Int} {ws : List (AV × List Int)} {x y : AV} {A : AHeap}
/-- What halves are. -/
def hP (f : List (Int × Int)) : Option Rat := plc f ((0 : Int) : Rat) (pw f 1 2)
end
end Go.Proofs.Ytmblehbjedpjoaa

namespace Go.Proofs.Ytmblehbjedpjoaa
open Go Go.Eng
theorem pair_beq {z w : Int × Int} (h : z ≠ w) : (z.1 == w.1 && z.2 == w.2) = false := by
  cases hb : (z.1 == w.1 && z.2 == w.2) with
  | false => rfl
  | true => simp at hb; exact absurd (Prod.ext hb.1 hb.2) h
end Go.Proofs.Ytmblehbjedpjoaa

namespace Go.Proofs.Ytmblehbjedpjoaa
open Go Go.Eng
/-- The parts of a fraction. -/
def rp (q : Rat) : Int × Int := (q.num, q.den)
theorem e2_rp (q : Rat) : e2 (rp q) = [I q.num, I (q.den : Int)] := rfl
section
variable {L : List Int} {ws : List (AV × List Int)} {x y : AV} {A : AHeap}
end
end Go.Proofs.Ytmblehbjedpjoaa

namespace Go.Proofs.Ytmblehbjedpjoaa
open Go Go.Eng
/-- A piece: an owner and two places. -/
structure Pc where
  o : Int
  r : Int × Int
  s : Int × Int
  deriving DecidableEq
def e5 (p : Pc) : List AV := [I p.o, I p.r.1, I p.r.2, I p.s.1, I p.s.2]
abbrev L5 := Ls 5 e5
theorem e5_len (p : Pc) : (e5 p).length = 5 := rfl
def eb (b : Bool) : List AV := [.bool b]
theorem eb_len (b : Bool) : (eb b).length = 1 := rfl
theorem repl_eb (b : Bool) : ∀ n, repl [AV.bool b] n = (List.replicate n b).flatMap eb
  | 0 => rfl
  | n + 1 => by rw [repl, repl_eb b n, List.replicate_succ, List.flatMap_cons]; rfl
/-- Where a piece must begin. -/
def atI (pcs : List Pc) (i : Nat) : Int × Int := match (pcs.take i).getLast? with | some p => p.s | none => (0, 1)
theorem atI_zero (pcs : List Pc) : atI pcs 0 = (0, 1) := rfl
theorem atI_succ {pcs : List Pc} {i : Nat} {p : Pc} (h : pcs[i]? = some p) : atI pcs (i + 1) = p.s := by
  unfold atI
  rw [List.take_add_one, h, Option.toList_some, List.getLast?_concat]
def CPi (L : List Int) (V : List (List Int)) (pcs : List Pc) (i : Nat) (p : Pc) : Prop :=
  (0 ≤ p.o ∧ p.o ≤ (V.length : Int) - 1) ∧ p.o ∉ (pcs.take i).map Pc.o ∧ isK L p.r ∧ isK L p.s ∧ p.r = atI pcs i ∧ ¬ qr p.s < qr p.r
instance (L : List Int) (V : List (List Int)) (pcs : List Pc) (i : Nat) (p : Pc) : Decidable (CPi L V pcs i p) := by unfold CPi; exact inferInstance
/-- The common denominator, step by step; one more than the greatest if it is too great. -/
def cmn : Int → List Int → Int
  | out, [] => out
  | out, d :: ds => if 1000000 < out / (Int.gcd out d : Int) * d then 1000001 else cmn (out / (Int.gcd out d : Int) * d) ds
def plcs (pcs : List Pc) : List (Int × Int) := pcs.flatMap fun p => [p.r, p.s]
def CP (L : List Int) (V : List (List Int)) (pcs : List Pc) : Prop :=
  pcs.length = V.length ∧ (∀ i, (h : i < pcs.length) → CPi L V pcs i pcs[i]) ∧ atI pcs pcs.length = (L.sum, 1) ∧ cmn 1 ((plcs pcs).map Prod.snd) ≤ 1000000
instance (L : List Int) (V : List (List Int)) (pcs : List Pc) : Decidable (CP L V pcs) := by unfold CP; exact inferInstance
def cpE (L : List Int) (V : List (List Int)) (pcs : List Pc) : Int := if kE L V = 0 then (if CP L V pcs then 0 else 1) else kE L V
theorem gcd_div {out d : Int} (h0 : 0 < out) (hd : 0 < d) : out.tdiv (Int.gcd out d) = out / (Int.gcd out d : Int) ∧ 0 < out / (Int.gcd out d : Int) ∧ out / (Int.gcd out d : Int) ≤ out := by
  obtain ⟨g1, g2⟩ := gcd_pos (a := out) hd
  obtain ⟨x, hx⟩ := Int.gcd_dvd_left out d
  generalize (Int.gcd out d : Nat) = g at *
  have hg : (0 : Int) < g := by omega
  refine ⟨Int.tdiv_eq_ediv_of_nonneg (by omega), ?_, ?_⟩
  · rw [hx, Int.mul_ediv_cancel_left _ (by omega)]
    rcases Int.lt_or_le 0 x with h | h
    · exact h
    · have := Int.mul_nonpos_of_nonneg_of_nonpos (Int.le_of_lt hg) h; omega
  · exact Int.ediv_le_self _ (by omega)
theorem c_Common {rs : List (Int × Int)} {v : AV} {A : AHeap} (hr : L2 A v rs) (hl : rs.length ≤ 1000000) (hd : ∀ r ∈ rs, 1 ≤ r.2 ∧ r.2 ≤ 1000000) : ACalls Try.prog 90 [v, I 1000000] A (I (cmn 1 (rs.map Prod.snd))) A := by
  refine acalls hmix Try.func90 (by kernel_rfl) t90 2 rfl (by decide) ?_
  dsimp only [m90]
  simp (maxSteps := 4000000) -implicitDefEqProofs -dsimp (disch := omega) only [↓AW_ops, ↓AW_seq, ↓AW_block, ↓AOps_nil, ↓AOps_pu, on_some, ↓then_normal, pval, rd_S, rd_C, put_S, ↓AW_toLoop, List.replicate_succ, List.replicate_zero, List.set_cons_zero, List.set_cons_succ, List.getElem?_cons_zero, List.getElem?_cons_succ, Option.getD_some, Nat.reduceSub, List.cons_append, List.nil_append, hr.len]
  revert hl
  intro _
  refine LoopK.by 30 (fun x : Nat × Int => x.1 ≤ rs.length ∧ (1 ≤ x.2 ∧ x.2 ≤ 1000000) ∧ cmn 1 (rs.map Prod.snd) = cmn x.2 ((rs.drop x.1).map Prod.snd)) (fun x => [(1, I 1000000), (5, I x.2), (8, v), (9, I rs.length), (10, I x.1)]) (fun _ => A) (fun x => rs.length - x.1) (0, 1) ⟨by omega, by omega, by simp⟩ rfl (by simp [Has, rd_s]) rfl ?_
  rintro ⟨i, out⟩ ⟨hi, ho, he⟩
  simp only at hi ho he
  by_cases hlt : i < rs.length
  · obtain ⟨z, hz⟩ : ∃ z, rs[i]? = some z := ⟨_, List.getElem?_eq_getElem hlt⟩
    have hlt' : (i : Int) < rs.length := by omega
    have hz2 := hd z (List.mem_of_getElem? hz)
    have hdr : rs.drop i = z :: rs.drop (i + 1) := by
      have := (List.getElem?_eq_some_iff.1 hz).2
      rw [← this]; exact List.drop_eq_getElem_cons hlt
    rw [hdr, List.map_cons, cmn] at he
    obtain ⟨q1, q2, q3⟩ := gcd_div (out := out) (d := z.2) (by omega) (by omega)
    have hg0 : ¬ (Int.gcd out z.2 : Int) = 0 := by have := gcd_pos (a := out) (b := z.2) (by omega); omega
    simp (maxSteps := 4000000) -implicitDefEqProofs -dsimp (disch := omega) only [↓AW_skip, ↓AW_ops, ↓AW_seq, ↓AW_cond, ↓AW_block, ↓AOps_nil, ↓AOps_pu, ↓AOps_ld, ↓AOps_call, on_some, condB_t, ↓then_normal, pval, lval, rd_S, rd_C, put_S, chkd, isAdr, bput, bgot, AV.cells?, splice, partA, eq_self, mk, List.foldl_cons, List.foldl_nil, List.replicate_succ, List.replicate_zero, List.set_cons_zero, List.set_cons_succ, List.getElem?_cons_zero, List.getElem?_cons_succ, List.drop_zero, List.drop_succ_cons, List.drop_nil, List.take_zero, List.take_succ_cons, List.take_nil, Option.getD_some, map_c, map_n, List.length_cons, List.length_nil, Nat.reduceAdd, Nat.reduceLeDiff, Nat.reduceEqDiff, Nat.zero_add, List.nil_append, List.append_nil, bin_lss, if_true, if_false, Bool.false_eq_true, decide_true, Go.Eng.e2, ne_eq, not_true_eq_false, hlt', hr.idx hlt, hr.ld0 hz 2 true (by decide), e2]
    refine CallK.of (s111 _ ⟨by omega, by omega⟩ (by omega) (by omega)) ?_
    have hm := Int.mul_le_mul (Int.le_trans q3 ho.2) hz2.2 (by omega) (by omega : (0 : Int) ≤ 1000000)
    have hm0 : 0 < out / (Int.gcd out z.2 : Int) * z.2 := Int.mul_pos q2 (by omega)
    by_cases h1 : 1000000 < out / (Int.gcd out z.2 : Int) * z.2
    · simp (maxSteps := 4000000) -implicitDefEqProofs -dsimp (disch := omega) only [↓AW_ops, ↓AW_seq, ↓AW_cond, ↓AW_ret, ↓AOps_nil, ↓AOps_pu, on_some, extK_same, condB_t, ↓then_normal, ↓then_ret, ↓inBlock_ret, ↓Fin_ret, pval, rd_S, rd_C, put_S, resV, resL, chkd, isAdr, bgot, AV.cells?, partA, eq_self, mk, List.foldl_cons, List.foldl_nil, List.replicate_succ, List.replicate_zero, List.set_cons_zero, List.set_cons_succ, List.getElem?_cons_zero, List.getElem?_cons_succ, List.drop_zero, List.drop_succ_cons, List.take_succ_cons, List.take_nil, Option.getD_some, List.length_cons, List.length_nil, Nat.reduceAdd, Nat.reduceLeDiff, Nat.zero_add, bin_add, bin_mul, bin_quo, bin_gtr, w64, if_true, if_false, Bool.false_eq_true, decide_true, Int.reduceAdd, hg0, q1, h1]
      rw [if_pos h1] at he
      exact gc_same (by rw [he])
    · simp (maxSteps := 4000000) -implicitDefEqProofs -dsimp (disch := omega) only [↓AW_skip, ↓AW_ops, ↓AW_seq, ↓AW_cond, ↓AOps_nil, ↓AOps_pu, on_some, extK_same, condB_f, ↓then_normal, ↓inBlock_normal, pval, rd_S, rd_C, put_S, chkd, isAdr, bgot, AV.cells?, partA, eq_self, mk, List.foldl_cons, List.foldl_nil, List.replicate_succ, List.replicate_zero, List.set_cons_zero, List.set_cons_succ, List.getElem?_cons_zero, List.getElem?_cons_succ, List.drop_zero, List.drop_succ_cons, List.take_succ_cons, List.take_nil, Option.getD_some, List.length_cons, List.length_nil, Nat.reduceAdd, Nat.reduceLeDiff, Nat.zero_add, bin_add, bin_mul, bin_quo, bin_gtr, w64, if_true, if_false, Bool.false_eq_true, decide_false, true_and, hg0, q1, h1]
      rw [if_neg h1] at he
      exact ⟨(i + 1, out / (Int.gcd out z.2 : Int) * z.2), ⟨hlt, by simp only; omega, he⟩, by simp [Has, rd_s], by simp only; omega⟩
  · have hlt' : ¬ ((i : Int) < rs.length) := by omega
    simp (maxSteps := 4000000) -implicitDefEqProofs -dsimp (disch := omega) only [↓AW_ops, ↓AW_seq, ↓AW_cond, ↓AW_exit, ↓AW_ret, ↓AOps_nil, ↓AOps_pu, on_some, condB_f, ↓then_normal, ↓then_exit, ↓inBlock_exit, ↓Fin_ret, pval, rd_S, put_S, resV, resL, eq_self, mk, List.foldl_cons, List.foldl_nil, List.replicate_succ, List.replicate_zero, List.set_cons_zero, List.set_cons_succ, List.getElem?_cons_zero, List.getElem?_cons_succ, Option.getD_some, bin_lss, if_true, decide_false, hlt']
    rw [List.drop_of_length_le (by omega)] at he
    exact gc_same (by rw [he]; rfl)
/-- What an older object becomes does not touch what is appended to. -/
theorem AccL_set {α : Type} {es : Nat} {e : α → List AV} {H H1 : AHeap} {v : AV} {xs : List α} (h : AccL es e H H1 v xs) {n : Nat} (hn : n < H.length) (o : AObj) : AccL es e (H.set n o) (H1.set n o) v xs := by
  obtain ⟨⟨t, rfl⟩, h2, h3⟩ := h
  refine ⟨⟨t, by rw [List.set_append_left _ _ hn]⟩, h2, ?_⟩
  rcases h3 with h3 | ⟨h0, m, h4, h5, h6⟩
  · exact .inl h3
  · refine .inr ⟨h0, m, h4, by simpa using h5, ?_⟩
    rw [List.getElem?_set_ne (by omega)]
    exact h6
theorem L2_two (A : AHeap) (r s : Int × Int) : L2 (A ++ [.cells true [I r.1, I r.2, I s.1, I s.2]]) (.sl 2 A.length 0 2 true) [r, s] := ⟨e2_len, by simp [slCells, cellsAt, e2]⟩
section
variable {L : List Int} {ws : List (AV × List Int)} {x y : AV} {A : AHeap}
theorem CP_not {V : List (List Int)} {pcs : List Pc} {i : Nat} {p : Pc} (hp : pcs[i]? = some p) (h : ¬ CPi L V pcs i p) : ¬ CP L V pcs := by
  intro hc
  obtain ⟨hi, he⟩ := List.getElem?_eq_some_iff.1 hp
  exact h (he ▸ hc.2.1 i hi)
set_option maxRecDepth 20000 in
set_option maxHeartbeats 4000000 in
theorem s35 (hL : L1 A x L) (hV : LL A y ws) (hs : Sz L ws) {pcs : List Pc} {v : AV} (hP : L5 A v pcs) (hl : pcs.length ≤ 1000000) (hW : ∀ p ∈ pcs, W p.r.1 ∧ W p.s.1) : ACalls Try.prog 35 [.agg [x, y], v] A (I (cpE L (lists ws) pcs)) A := by
  refine acalls hmix Try.func35 (by kernel_rfl) t35 2 rfl (by decide) ?_
  dsimp only [m35]
  simp (maxSteps := 4000000) -implicitDefEqProofs -dsimp (disch := omega) only [↓AW_ops, ↓AW_seq, ↓AOps_nil, ↓AOps_pu, ↓AOps_call, on_some, ↓then_normal, pval, rd_S, rd_C, put_S, chkd, bgot, AV.cells?, partA, eq_self, List.replicate_succ, List.replicate_zero, List.set_cons_zero, List.set_cons_succ, List.getElem?_cons_zero, List.getElem?_cons_succ, List.drop_zero, List.take_succ_cons, List.take_nil, Option.getD_some, map_c, map_n, List.length_cons, List.length_nil, Nat.reduceAdd, Nat.reduceSub, Nat.reduceLeDiff, Nat.reduceEqDiff, Nat.zero_add, List.cons_append, List.nil_append, if_true, if_false]
  refine CallK.of (s26 hL hV hs.l hs.v hs.w) ?_
  by_cases h0 : kE L (lists ws) = 0
  case neg =>
    simp (maxSteps := 4000000) -implicitDefEqProofs -dsimp (disch := omega) only [↓AW_ops, ↓AW_seq, ↓AW_cond, ↓AW_ret, ↓AOps_nil, ↓AOps_pu, on_some, extK_same, condB_t, ↓then_normal, ↓then_ret, ↓Fin_ret, pval, rd_S, rd_C, put_S, resV, resL, List.replicate_succ, List.replicate_zero, List.set_cons_zero, List.set_cons_succ, List.getElem?_cons_zero, List.getElem?_cons_succ, Option.getD_some, Nat.reduceSub, List.cons_append, List.nil_append, bin_neq, decide_true, not_false_eq_true, h0]
    exact gc_same (by rw [cpE, if_neg h0])
  have hg := KG.of h0
  have hv5 := hg.v5
  have hv1 := hg.v1
  have hll : (lists ws).length = ws.length := by simp
  have bad : ¬ CP L (lists ws) pcs → cpE L (lists ws) pcs = 1 := fun h => by rw [cpE, if_pos h0, if_neg h]
  by_cases hn : (pcs.length : Int) = ws.length
  case neg =>
    simp (maxSteps := 4000000) -implicitDefEqProofs -dsimp (disch := omega) only [↓AW_skip, ↓AW_ops, ↓AW_seq, ↓AW_cond, ↓AW_ret, ↓AOps_nil, ↓AOps_pu, on_some, extK_same, condB_t, condB_f, ↓then_normal, ↓then_ret, ↓Fin_ret, pval, rd_S, rd_C, put_S, resV, resL, chkd, isAdr, bgot, AV.cells?, partA, eq_self, List.replicate_succ, List.replicate_zero, List.set_cons_zero, List.set_cons_succ, List.getElem?_cons_zero, List.getElem?_cons_succ, List.drop_zero, List.drop_succ_cons, List.take_succ_cons, List.take_nil, Option.getD_some, List.length_cons, List.length_nil, Nat.reduceAdd, Nat.reduceSub, Nat.reduceLeDiff, Nat.zero_add, List.cons_append, List.nil_append, bin_neq, if_true, if_false, Bool.false_eq_true, decide_true, decide_false, not_true_eq_false, not_false_eq_true, h0, hP.len, hV.ls.len, hn]
    exact gc_same (by rw [bad (fun hc => hn (by have := hc.1; omega))])
  have hmk : (0 : Int) ≤ ws.length ∧ (ws.length : Int) ≤ ((lim : Nat) : Int) := by unfold lim; omega
  have hmk1 : ((ws.length : Int) ≤ ws.length) := Int.le_refl _
  simp (maxSteps := 4000000) -implicitDefEqProofs -dsimp (disch := omega) only [↓AW_skip, ↓AW_ops, ↓AW_seq, ↓AW_cond, ↓AOps_nil, ↓AOps_pu, ↓AOps_ha, ↓AOps_call, on_some, extK_app, extK_same, condB_f, ↓then_normal, pval, hval_mks, rd_S, rd_C, put_S, chkd, isAdr, bgot, cells_agg, partA, beq_self_eq_true, eq_self, List.replicate_succ, List.replicate_zero, List.set_cons_zero, List.set_cons_succ, List.getElem?_cons_zero, List.getElem?_cons_succ, List.drop_zero, List.drop_succ_cons, List.take_succ_cons, List.take_nil, Option.getD_some, map_c, map_n, List.length_cons, List.length_nil, Nat.reduceAdd, Nat.reduceSub, Nat.reduceLeDiff, Nat.zero_add, List.cons_append, List.nil_append, bin_neq, if_true, if_false, Bool.false_eq_true, decide_false, and_true, not_true_eq_false, h0, hP.len, hV.ls.len, hn, hmk, hmk1, Int.toNat_natCast]
  refine CallK.of (s76 _ _) ?_
  simp (maxSteps := 4000000) -implicitDefEqProofs -dsimp (disch := omega) only [↓AW_ops, ↓AW_seq, ↓AW_block, ↓AOps_nil, ↓AOps_pu, on_some, extK_same, ↓then_normal, pval, rd_S, rd_C, put_S, ↓AW_toLoop, chkd, bput, cells_agg, splice, eq_self, List.replicate_succ, List.replicate_zero, List.set_cons_zero, List.set_cons_succ, List.getElem?_cons_zero, List.getElem?_cons_succ, List.drop_succ_cons, List.drop_nil, List.take_zero, Option.getD_some, List.length_cons, List.length_nil, Nat.reduceAdd, Nat.reduceSub, Nat.reduceLeDiff, Nat.zero_add, List.cons_append, List.nil_append, List.append_nil, if_true, if_false, ne_eq, not_true_eq_false, R_int, hP.len, hn]
  rw [repl_eb]
  -- who has a piece
  have hblz : (List.range ws.length).map (fun (o : Nat) => decide ((o : Int) ∈ ((pcs.take 0).map Pc.o))) = List.replicate ws.length false := by
    apply List.ext_getElem
    · simp
    · intro i h1 h2; simp
  rw [← hblz]
  refine LoopK.by 100 (fun z : Nat × AV × AHeap => z.1 ≤ pcs.length ∧ (∀ j, (h : j < pcs.length) → j < z.1 → CPi L (lists ws) pcs j pcs[j]) ∧
      AccL 2 e2 (A ++ [.cells true (((List.range ws.length).map (fun (o : Nat) => decide ((o : Int) ∈ ((pcs.take z.1).map Pc.o)))).flatMap eb)]) z.2.2 z.2.1 (plcs (pcs.take z.1)))
    (fun z => [(2, .agg [x, y]), (6, z.2.1), (7, .sl 1 A.length 0 ws.length true), (8, .agg [I (atI pcs z.1).1, I (atI pcs z.1).2]), (27, v), (28, I ws.length), (29, I z.1)]) (fun z => z.2.2) (fun z => pcs.length - z.1) (0, .nilS, _) ⟨by omega, fun j _ hj => by omega, AccL.nil (List.prefix_refl _)⟩ rfl (by simp [Has, rd_s, atI_zero]) rfl ?_
  rintro ⟨i, u, H⟩ ⟨hi, hc, hu⟩
  simp only at hi hc hu
  have hpre : A <+: H := (pre_app _ _).trans hu.pre
  have hP1 := hP.mono hpre
  have hL1 := hL.mono hpre
  have hV1 := hV.mono hpre
  generalize hbl : (List.range ws.length).map (fun (o : Nat) => decide ((o : Int) ∈ ((pcs.take i).map Pc.o))) = bl at *
  have hbll : bl.length = ws.length := by rw [← hbl]; simp
  have hOL : OL 1 eb A H A.length (.sl 1 A.length 0 ws.length true) bl := ⟨eb_len, hpre, Nat.le_refl _, pre_get hu.pre (by simp), true, by rw [hbll]⟩
  by_cases hlt : i < pcs.length
  · obtain ⟨p, hz⟩ : ∃ z, pcs[i]? = some z := ⟨_, List.getElem?_eq_getElem hlt⟩
    have hlt' : (i : Int) < pcs.length := by omega
    have hlt2 : (i : Int) < ws.length := by omega
    obtain ⟨wr, wsn⟩ := hW p (List.mem_of_getElem? hz)
    have hnot : ∀ hh : ¬ CPi L (lists ws) pcs i p, cpE L (lists ws) pcs = 1 := fun hh => bad (CP_not hz hh)
    by_cases h1 : 0 ≤ p.o ∧ p.o ≤ (ws.length : Int) - 1
    case neg =>
      simp (maxSteps := 4000000) -implicitDefEqProofs -dsimp (disch := omega) only [↓AW_skip, ↓AW_ops, ↓AW_seq, ↓AW_cond, ↓AW_block, ↓AOps_nil, ↓AOps_pu, ↓AOps_ld, ↓AOps_call, on_some, condB_t, ↓then_normal, pval, lval, rd_S, rd_C, put_S, chkd, isAdr, bput, bgot, cells_agg, splice, partA, eq_self, mk, List.foldl_cons, List.foldl_nil, List.replicate_succ, List.replicate_zero, List.set_cons_zero, List.set_cons_succ, List.getElem?_cons_zero, List.getElem?_cons_succ, List.drop_zero, List.drop_succ_cons, List.drop_nil, List.take_zero, List.take_succ_cons, List.take_nil, Option.getD_some, map_c, map_n, List.length_cons, List.length_nil, Nat.reduceAdd, Nat.reduceLeDiff, Nat.reduceEqDiff, Nat.zero_add, List.nil_append, List.append_nil, bin_sub, bin_lss, w64, if_true, if_false, Bool.false_eq_true, decide_true, ne_eq, not_true_eq_false, hlt2, hP1.idx hlt, hP1.ld0 hz 5 true (by decide), e5, hV1.ls.len]
      refine CallK.of (c_kw _ _ _ _) ?_
      simp (maxSteps := 4000000) -implicitDefEqProofs -dsimp (disch := omega) only [↓AW_ops, ↓AW_seq, ↓AW_cond, ↓AW_ret, ↓AOps_nil, ↓AOps_pu, ↓AOps_guard, on_some, extK_same, guardB_tf, skipS_some, condB_t, ↓then_normal, ↓then_ret, ↓inBlock_ret, ↓Fin_ret, pval, rd_S, rd_C, put_S, resV, resL, eq_self, mk, List.foldl_cons, List.foldl_nil, List.replicate_succ, List.replicate_zero, List.set_cons_zero, List.set_cons_succ, List.getElem?_cons_zero, List.getElem?_cons_succ, Option.getD_some, if_true, Bool.not_false, decide_false, h1]
      exact gc_val hpre (by rw [hnot (fun hh => h1 (by have := hh.1; omega))]; rfl)
    have hidx := hOL.ls.idxI (k := .i64) h1.1 (by omega : p.o < bl.length)
    have hol : p.o.toNat < bl.length := by omega
    obtain ⟨b, hb⟩ : ∃ b, bl[p.o.toNat]? = some b := ⟨_, List.getElem?_eq_getElem hol⟩
    have hbd : b = decide (p.o ∈ (pcs.take i).map Pc.o) := by
      rw [← hbl] at hb
      have hr : (List.range ws.length)[p.o.toNat]? = some p.o.toNat := by rw [List.getElem?_range (by omega)]
      rw [List.getElem?_map, hr, Option.map_some] at hb
      have := Option.some.inj hb
      rw [← this, show ((p.o.toNat : Nat) : Int) = p.o by omega]
    have hld := hOL.ls.ld0 hb 1 false (by decide)
    have fin1 : ∀ hh : ¬ CPi L (lists ws) pcs i p, GC A (I 1) H (I (cpE L (lists ws) pcs)) A := fun hh => gc_val hpre (by rw [hnot hh]; rfl)
    by_cases h2 : p.o ∈ (pcs.take i).map Pc.o
    case pos =>
      have hbt : b = true := by rw [hbd]; exact decide_eq_true h2
      subst hbt
      simp (maxSteps := 4000000) -implicitDefEqProofs -dsimp (disch := omega) only [↓AW_skip, ↓AW_ops, ↓AW_seq, ↓AW_cond, ↓AW_block, ↓AOps_nil, ↓AOps_pu, ↓AOps_ld, ↓AOps_call, on_some, condB_t, ↓then_normal, pval, lval, rd_S, rd_C, put_S, chkd, isAdr, bput, bgot, cells_agg, splice, partA, eq_self, mk, List.foldl_cons, List.foldl_nil, List.replicate_succ, List.replicate_zero, List.set_cons_zero, List.set_cons_succ, List.getElem?_cons_zero, List.getElem?_cons_succ, List.drop_zero, List.drop_succ_cons, List.drop_nil, List.take_zero, List.take_succ_cons, List.take_nil, Option.getD_some, map_c, map_n, List.length_cons, List.length_nil, Nat.reduceAdd, Nat.reduceLeDiff, Nat.reduceEqDiff, Nat.zero_add, List.nil_append, List.append_nil, bin_sub, bin_lss, w64, if_true, if_false, Bool.false_eq_true, decide_true, ne_eq, not_true_eq_false, hlt2, hP1.idx hlt, hP1.ld0 hz 5 true (by decide), e5, hV1.ls.len]
      refine CallK.of (c_kw _ _ _ _) ?_
      simp (maxSteps := 4000000) -implicitDefEqProofs -dsimp (disch := omega) only [↓AW_ops, ↓AW_seq, ↓AW_cond, ↓AW_ret, ↓AOps_nil, ↓AOps_pu, ↓AOps_ld, ↓AOps_guard, on_some, extK_same, guardB_tf, guardB_ff, skipS_some, condB_t, ↓then_normal, ↓then_ret, ↓inBlock_ret, ↓Fin_ret, pval, lval, rd_S, rd_C, put_S, resV, resL, chkd, isAdr, bgot, cells_agg, partA, eq_self, mk, List.foldl_cons, List.foldl_nil, List.replicate_succ, List.replicate_zero, List.set_cons_zero, List.set_cons_succ, List.getElem?_cons_zero, List.getElem?_cons_succ, List.drop_zero, List.take_zero, List.take_succ_cons, List.take_nil, Option.getD_some, List.length_cons, List.length_nil, Nat.reduceAdd, Nat.reduceLeDiff, Nat.zero_add, if_true, if_false, Bool.false_eq_true, Bool.not_true, decide_true, and_true, h1, hidx, hld, eb]
      exact fin1 (fun hh => hh.2.1 h2)
    have hbf : b = false := by rw [hbd]; exact decide_eq_false h2
    subst hbf
    simp (maxSteps := 4000000) -implicitDefEqProofs -dsimp (disch := omega) only [↓AW_skip, ↓AW_ops, ↓AW_seq, ↓AW_cond, ↓AW_block, ↓AOps_nil, ↓AOps_pu, ↓AOps_ld, ↓AOps_call, on_some, condB_t, ↓then_normal, pval, lval, rd_S, rd_C, put_S, chkd, isAdr, bput, bgot, cells_agg, splice, partA, eq_self, mk, List.foldl_cons, List.foldl_nil, List.replicate_succ, List.replicate_zero, List.set_cons_zero, List.set_cons_succ, List.getElem?_cons_zero, List.getElem?_cons_succ, List.drop_zero, List.drop_succ_cons, List.drop_nil, List.take_zero, List.take_succ_cons, List.take_nil, Option.getD_some, map_c, map_n, List.length_cons, List.length_nil, Nat.reduceAdd, Nat.reduceLeDiff, Nat.reduceEqDiff, Nat.zero_add, List.nil_append, List.append_nil, bin_sub, bin_lss, w64, if_true, if_false, Bool.false_eq_true, decide_true, ne_eq, not_true_eq_false, hlt2, hP1.idx hlt, hP1.ld0 hz 5 true (by decide), e5, hV1.ls.len]
    refine CallK.of (c_kw _ _ _ _) ?_
    simp (maxSteps := 4000000) -implicitDefEqProofs -dsimp (disch := omega) only [↓AOps_pu, ↓AOps_ld, ↓AOps_call, ↓AOps_guard, on_some, extK_same, guardB_ff, pval, lval, rd_S, rd_C, put_S, chkd, isAdr, bgot, cells_agg, partA, eq_self, mk, List.foldl_cons, List.foldl_nil, List.replicate_succ, List.replicate_zero, List.set_cons_zero, List.set_cons_succ, List.getElem?_cons_zero, List.getElem?_cons_succ, List.drop_zero, List.drop_succ_cons, List.take_zero, List.take_succ_cons, List.take_nil, Option.getD_some, map_c, map_n, List.length_cons, List.length_nil, Nat.reduceAdd, Nat.reduceLeDiff, Nat.reduceEqDiff, Nat.zero_add, if_true, if_false, Bool.false_eq_true, Bool.not_true, decide_true, and_true, h1, hidx, hld, eb]
    refine CallK.of (c_isK hL1 hg p.r wr) ?_
    by_cases h3 : isK L p.r
    case neg =>
      simp (maxSteps := 4000000) -implicitDefEqProofs -dsimp (disch := omega) only [↓AW_ops, ↓AW_seq, ↓AW_cond, ↓AW_ret, ↓AOps_nil, ↓AOps_pu, ↓AOps_guard, on_some, extK_same, guardB_tf, guardB_ff, skipS_some, condB_t, ↓then_normal, ↓then_ret, ↓inBlock_ret, ↓Fin_ret, pval, rd_S, rd_C, put_S, resV, resL, eq_self, mk, List.foldl_cons, List.foldl_nil, List.replicate_succ, List.replicate_zero, List.set_cons_zero, List.set_cons_succ, List.getElem?_cons_zero, List.getElem?_cons_succ, Option.getD_some, if_true, if_false, Bool.false_eq_true, Bool.not_false, decide_false, h3]
      exact fin1 (fun hh => h3 hh.2.2.1)
    simp (maxSteps := 4000000) -implicitDefEqProofs -dsimp (disch := omega) only [↓AOps_pu, ↓AOps_call, ↓AOps_guard, on_some, extK_same, guardB_ff, pval, rd_S, rd_C, put_S, chkd, isAdr, bgot, cells_agg, partA, eq_self, mk, List.foldl_cons, List.foldl_nil, List.replicate_succ, List.replicate_zero, List.set_cons_zero, List.set_cons_succ, List.getElem?_cons_zero, List.getElem?_cons_succ, List.drop_zero, List.drop_succ_cons, List.take_succ_cons, List.take_nil, Option.getD_some, map_c, map_n, List.length_cons, List.length_nil, Nat.reduceAdd, Nat.reduceLeDiff, Nat.reduceEqDiff, Nat.zero_add, if_true, if_false, Bool.false_eq_true, Bool.not_true, decide_true, h3]
    refine CallK.of (c_isK hL1 hg p.s wsn) ?_
    by_cases h4 : isK L p.s
    case neg =>
      simp (maxSteps := 4000000) -implicitDefEqProofs -dsimp (disch := omega) only [↓AW_ops, ↓AW_seq, ↓AW_cond, ↓AW_ret, ↓AOps_nil, ↓AOps_pu, ↓AOps_guard, on_some, extK_same, guardB_tf, guardB_ff, skipS_some, condB_t, ↓then_normal, ↓then_ret, ↓inBlock_ret, ↓Fin_ret, pval, rd_S, rd_C, put_S, resV, resL, eq_self, mk, List.foldl_cons, List.foldl_nil, List.replicate_succ, List.replicate_zero, List.set_cons_zero, List.set_cons_succ, List.getElem?_cons_zero, List.getElem?_cons_succ, Option.getD_some, if_true, if_false, Bool.false_eq_true, Bool.not_false, decide_false, h4]
      exact fin1 (fun hh => h4 hh.2.2.2.1)
    by_cases h5 : p.r = atI pcs i
    case neg =>
      have hpb := pair_beq h5
      simp (maxSteps := 4000000) -implicitDefEqProofs -dsimp (disch := omega) only [↓AW_ops, ↓AW_seq, ↓AW_cond, ↓AW_ret, ↓AOps_nil, ↓AOps_pu, ↓AOps_guard, on_some, extK_same, guardB_tf, guardB_ff, skipS_some, condB_t, ↓then_normal, ↓then_ret, ↓inBlock_ret, ↓Fin_ret, pval, rd_S, rd_C, put_S, resV, resL, chkd, isAdr, bgot, cells_agg, partA, eqc, Bool.and_true, eq_self, mk, List.foldl_cons, List.foldl_nil, List.replicate_succ, List.replicate_zero, List.set_cons_zero, List.set_cons_succ, List.getElem?_cons_zero, List.getElem?_cons_succ, List.drop_zero, List.drop_succ_cons, List.take_zero, List.take_succ_cons, List.take_nil, Option.getD_some, Option.map_some, List.length_cons, List.length_nil, Nat.reduceAdd, Nat.reduceLeDiff, Nat.reduceEqDiff, Nat.zero_add, if_true, if_false, Bool.false_eq_true, Bool.not_true, Bool.not_false, decide_true, h4, hpb]
      exact fin1 (fun hh => h5 hh.2.2.2.2.1)
    obtain ⟨w0, hw0⟩ := first_row hg
    have hmr := mem_lists (List.mem_of_getElem? hw0)
    have hgd := hg.gd hmr
    obtain ⟨k1, _, _, p1⟩ := isK_R hg h3
    obtain ⟨k2, _, _, p2⟩ := isK_R hg h4
    have p1 := p1 _ hmr
    have p2 := p2 _ hmr
    have hcmp := s65 (qr p.r) (qr p.s) H (p1.sm hgd) (p2.sm hgd)
    rw [← k1, ← k2] at hcmp
    simp (maxSteps := 4000000) -implicitDefEqProofs -dsimp (disch := omega) only [↓AOps_pu, ↓AOps_call, ↓AOps_guard, on_some, extK_same, guardB_ff, pval, rd_S, rd_C, put_S, chkd, isAdr, bgot, cells_agg, partA, eqc, beq_self_eq_true, eq_self, mk, List.foldl_cons, List.foldl_nil, List.replicate_succ, List.replicate_zero, List.set_cons_zero, List.set_cons_succ, List.getElem?_cons_zero, List.getElem?_cons_succ, List.drop_zero, List.drop_succ_cons, List.take_zero, List.take_succ_cons, List.take_nil, Option.getD_some, Option.map_some, map_c, map_n, List.length_cons, List.length_nil, Nat.reduceAdd, Nat.reduceLeDiff, Nat.reduceEqDiff, Nat.zero_add, if_true, if_false, Bool.false_eq_true, Bool.not_true, Bool.true_and, decide_true, h4, ← h5]
    refine CallK.of hcmp ?_
    by_cases h6 : qr p.s < qr p.r
    case pos =>
      have h6' := (sub_pos_iff (qr p.r) (qr p.s)).2 h6
      simp (maxSteps := 4000000) -implicitDefEqProofs -dsimp (disch := omega) only [↓AW_ops, ↓AW_seq, ↓AW_cond, ↓AW_ret, ↓AOps_nil, ↓AOps_pu, ↓AOps_guard, on_some, extK_same, guardB_ff, condB_t, ↓then_normal, ↓then_ret, ↓inBlock_ret, ↓Fin_ret, pval, rd_S, rd_C, put_S, resV, resL, mk, List.foldl_cons, List.foldl_nil, List.replicate_succ, List.replicate_zero, List.set_cons_zero, List.set_cons_succ, List.getElem?_cons_zero, List.getElem?_cons_succ, Option.getD_some, bin_gtr, if_false, Bool.false_eq_true, decide_true, h6']
      exact fin1 (fun hh => hh.2.2.2.2.2 h6)
    have h6' : ¬ 0 < (qr p.r - qr p.s).num := fun hh => h6 ((sub_pos_iff _ _).1 hh)
    have hst := hOL.st hol (B true) true rfl
    have hset := hOL.set p.o.toNat true
    generalize hH1 : H.set A.length (.cells true ((bl.set p.o.toNat true).flatMap eb)) = H1 at *
    have hu1 := AccL_set hu (n := A.length) (by simp) (.cells true ((bl.set p.o.toNat true).flatMap eb))
    rw [hH1] at hu1
    have hBe : (A ++ [AObj.cells true (bl.flatMap eb)]).set A.length (.cells true ((bl.set p.o.toNat true).flatMap eb)) = A ++ [.cells true ((bl.set p.o.toNat true).flatMap eb)] := by simp
    rw [hBe] at hu1
    have hu2 := hu1.mono (pre_app H1 [.cells true [I p.r.1, I p.r.2, I p.s.1, I p.s.2]])
    have hpl : ((plcs (pcs.take i)).length : Int) ≤ 2 * i := by
      have : ∀ l : List Pc, (plcs l).length = 2 * l.length := by
        intro l
        induction l with
        | nil => rfl
        | cons a l ih => simp only [plcs, List.flatMap_cons, List.length_append, List.length_cons, List.length_nil] at *; omega
      rw [this, List.length_take]; omega
    obtain ⟨u3, H3, happ, hu3⟩ := hu2.pushes (L2_two H1 p.r p.s) (by simp [lim]; omega)
    have hbl2 : (List.range ws.length).map (fun (o : Nat) => decide ((o : Int) ∈ ((pcs.take (i + 1)).map Pc.o))) = bl.set p.o.toNat true := by
      rw [← hbl]
      apply List.ext_getElem
      · simp
      · intro k g1 g2
        simp only [List.length_map, List.length_range] at g1
        rw [List.getElem_set]
        simp only [List.getElem_map, List.getElem_range]
        have hmem : ((k : Int) ∈ (pcs.take (i + 1)).map Pc.o) ↔ ((k : Int) ∈ (pcs.take i).map Pc.o ∨ (k : Int) = p.o) := by
          rw [List.take_add_one, hz, Option.toList_some, List.map_append, List.mem_append]
          simp
        rw [decide_eq_decide.2 hmem]
        by_cases hk : p.o.toNat = k
        · rw [if_pos hk, decide_eq_true]; right; omega
        · rw [if_neg hk, decide_eq_decide]
          constructor
          · rintro (h | h)
            · exact h
            · omega
          · exact fun h => .inl h
    have hpl2 : plcs (pcs.take (i + 1)) = plcs (pcs.take i) ++ [p.r, p.s] := by
      rw [List.take_add_one, hz, Option.toList_some]
      simp [plcs]
    simp (maxSteps := 4000000) -implicitDefEqProofs -dsimp (disch := omega) only [↓AW_skip, ↓AW_ops, ↓AW_seq, ↓AW_cond, ↓AOps_nil, ↓AOps_pu, ↓AOps_ha, ↓AOps_guard, on_some, extK_false, extK_app, extK_same, guardB_ff, condB_f, ↓then_normal, ↓inBlock_normal, pval, hval_st, hval_blds, hval_app, rd_S, rd_C, put_S, putS_none, chkd, isAdr, bput, bgot, cells_agg, splice, partA, fillA, repl, eq_self, mk, List.foldl_cons, List.foldl_nil, List.replicate_succ, List.replicate_zero, List.set_cons_zero, List.set_cons_succ, List.getElem?_cons_zero, List.getElem?_cons_succ, List.drop_zero, List.drop_succ_cons, List.drop_nil, List.take_zero, List.take_succ_cons, List.take_nil, Option.getD_some, Option.map_some, map_c, map_n, List.length_cons, List.length_nil, Nat.reduceAdd, Nat.reduceLeDiff, Nat.reduceEqDiff, Nat.zero_add, List.cons_append, List.nil_append, List.append_nil, bin_add, bin_gtr, w64, if_true, if_false, Bool.false_eq_true, decide_false, true_and, and_true, ne_eq, not_true_eq_false, h6', hidx, hst, happ]
    refine ⟨(i + 1, u3, H3), ⟨hlt, fun j hj hji => ?_, ?_⟩, by simp [Has, rd_s, atI_succ hz], rfl, by simp only; omega⟩
    · by_cases hji' : j < i
      · exact hc j hj hji'
      · have : j = i := by simp only at hji; omega
        subst this
        have he : pcs[j] = p := (List.getElem?_eq_some_iff.1 hz).2
        rw [he]
        exact ⟨by omega, h2, h3, h4, h5, h6⟩
    · simp only
      rw [hbl2, hpl2]
      exact hu3
  · have hiE : i = pcs.length := by omega
    subst hiE
    have hlt' : ¬ ((pcs.length : Int) < ws.length) := by omega
    rw [List.take_length] at hu
    have hkd : ∀ r ∈ plcs pcs, 1 ≤ r.2 ∧ r.2 ≤ 1000000 := by
      intro r hr
      obtain ⟨p, hp, hr⟩ := List.mem_flatMap.1 hr
      obtain ⟨j, hj, rfl⟩ := List.mem_iff_getElem.1 hp
      have := hc j hj hj
      simp only [List.mem_cons, List.not_mem_nil, or_false] at hr
      rcases hr with rfl | rfl
      · exact this.2.2.1.1.1
      · exact this.2.2.2.1.1.1
    have hpl : (plcs pcs).length = 2 * pcs.length := by
      have : ∀ l : List Pc, (plcs l).length = 2 * l.length := by
        intro l
        induction l with
        | nil => rfl
        | cons a l ih => simp only [plcs, List.flatMap_cons, List.length_append, List.length_cons, List.length_nil] at *; omega
      exact this pcs
    simp (maxSteps := 4000000) -implicitDefEqProofs -dsimp (disch := omega) only [↓AW_ops, ↓AW_seq, ↓AW_cond, ↓AW_exit, ↓AOps_nil, ↓AOps_pu, ↓AOps_call, on_some, condB_f, ↓then_normal, ↓then_exit, ↓inBlock_exit, pval, rd_S, put_S, chkd, bgot, partA, eq_self, mk, List.foldl_cons, List.foldl_nil, List.replicate_succ, List.replicate_zero, List.set_cons_zero, List.set_cons_succ, List.getElem?_cons_zero, List.getElem?_cons_succ, List.drop_zero, List.take_succ_cons, List.take_nil, Option.getD_some, map_c, map_n, List.length_cons, List.length_nil, Nat.reduceAdd, Nat.reduceLeDiff, Nat.reduceEqDiff, Nat.zero_add, bin_lss, if_true, if_false, decide_false, hlt']
    refine CallK.of (c_end (y := y) hL1 hg) ?_
    simp (maxSteps := 4000000) -implicitDefEqProofs -dsimp (disch := omega) only [↓AOps_call, extK_same, rd_S, put_S, mk, List.foldl_cons, List.foldl_nil, List.replicate_succ, List.replicate_zero, List.set_cons_zero, List.set_cons_succ, List.getElem?_cons_zero, List.getElem?_cons_succ, Option.getD_some, map_c, map_n]
    refine CallK.of (s76 _ _) ?_
    simp (maxSteps := 4000000) -implicitDefEqProofs -dsimp (disch := omega) only [↓AOps_pu, ↓AOps_guard, on_some, extK_same, pval, rd_S, put_S, eqc, Bool.and_true, eq_self, mk, List.foldl_cons, List.foldl_nil, List.replicate_succ, List.replicate_zero, List.set_cons_zero, List.set_cons_succ, List.getElem?_cons_zero, List.getElem?_cons_succ, Option.getD_some, Option.map_some, if_true, R_int]
    by_cases h7 : atI pcs pcs.length = (L.sum, 1)
    case neg =>
      have hpb : ((atI pcs pcs.length).1 == L.sum && (atI pcs pcs.length).2 == 1) = false := pair_beq h7
      simp (maxSteps := 4000000) -implicitDefEqProofs -dsimp (disch := omega) only [↓AW_ops, ↓AW_seq, ↓AW_cond, ↓AW_ret, ↓AOps_nil, ↓AOps_pu, ↓AOps_guard, on_some, guardB_tf, skipS_some, condB_t, ↓then_normal, ↓then_ret, ↓Fin_ret, pval, rd_S, rd_C, put_S, resV, resL, eq_self, mk, List.foldl_cons, List.foldl_nil, List.replicate_succ, List.replicate_zero, List.set_cons_zero, List.set_cons_succ, List.getElem?_cons_zero, List.getElem?_cons_succ, Option.getD_some, if_true, Bool.not_false, hpb]
      exact gc_val hpre (by rw [bad (fun hc => h7 hc.2.2.1)]; rfl)
    have h7a : (atI pcs pcs.length).1 = L.sum := by rw [h7]
    have h7b : (atI pcs pcs.length).2 = 1 := by rw [h7]
    simp (maxSteps := 4000000) -implicitDefEqProofs -dsimp (disch := omega) only [↓AOps_pu, ↓AOps_call, ↓AOps_guard, on_some, guardB_ff, pval, rd_S, rd_C, put_S, beq_self_eq_true, Bool.and_self, mk, List.foldl_cons, List.foldl_nil, List.replicate_succ, List.replicate_zero, List.set_cons_zero, List.set_cons_succ, List.getElem?_cons_zero, List.getElem?_cons_succ, Option.getD_some, map_c, map_n, Bool.not_true, h7a, h7b]
    refine CallK.of (c_Common (AccL_ls hu e2_len) (by omega) hkd) ?_
    by_cases h8 : cmn 1 ((plcs pcs).map Prod.snd) ≤ 1000000
    · have h8' : ¬ 1000000 < cmn 1 ((plcs pcs).map Prod.snd) := by omega
      simp (maxSteps := 4000000) -implicitDefEqProofs -dsimp (disch := omega) only [↓AW_skip, ↓AW_ops, ↓AW_seq, ↓AW_cond, ↓AW_ret, ↓AOps_nil, ↓AOps_pu, ↓AOps_guard, on_some, extK_same, guardB_ff, condB_f, ↓then_normal, ↓Fin_ret, pval, rd_S, rd_C, put_S, resV, resL, beq_self_eq_true, Bool.and_self, mk, List.foldl_cons, List.foldl_nil, List.replicate_succ, List.replicate_zero, List.set_cons_zero, List.set_cons_succ, List.getElem?_cons_zero, List.getElem?_cons_succ, Option.getD_some, bin_gtr, if_false, Bool.false_eq_true, Bool.not_true, decide_false, h8', h7a, h7b]
      refine gc_val hpre ?_
      rw [cpE, if_pos h0, if_pos ⟨by omega, fun j hj => hc j hj hj, h7, h8⟩]
      rfl
    · have h8' : 1000000 < cmn 1 ((plcs pcs).map Prod.snd) := by omega
      simp (maxSteps := 4000000) -implicitDefEqProofs -dsimp (disch := omega) only [↓AW_ops, ↓AW_seq, ↓AW_cond, ↓AW_ret, ↓AOps_nil, ↓AOps_pu, ↓AOps_guard, on_some, extK_same, guardB_ff, condB_t, ↓then_normal, ↓then_ret, ↓Fin_ret, pval, rd_S, rd_C, put_S, resV, resL, beq_self_eq_true, Bool.and_self, mk, List.foldl_cons, List.foldl_nil, List.replicate_succ, List.replicate_zero, List.set_cons_zero, List.set_cons_succ, List.getElem?_cons_zero, List.getElem?_cons_succ, Option.getD_some, bin_gtr, if_false, Bool.false_eq_true, Bool.not_true, decide_true, h8', h7a, h7b]
      exact gc_val hpre (by rw [bad (fun hc => h8 hc.2.2.2)]; rfl)
end
end Go.Proofs.Ytmblehbjedpjoaa

namespace Go.Proofs.Ytmblehbjedpjoaa
open Go Go.Eng
theorem lcm_facts {out d : Int} (h0 : 0 < out) (hd : 0 < d) : 0 < out / (Int.gcd out d : Int) * d ∧ out ∣ out / (Int.gcd out d : Int) * d ∧ d ∣ out / (Int.gcd out d : Int) * d ∧ ∀ D, out ∣ D → d ∣ D → out / (Int.gcd out d : Int) * d ∣ D := by
  obtain ⟨_, q2, _⟩ := gcd_div h0 hd
  obtain ⟨g1, g2⟩ := gcd_pos (a := out) hd
  refine ⟨Int.mul_pos q2 hd, ?_, Int.dvd_mul_left _ _, fun D h1 h2 => ?_⟩
  · obtain ⟨x, hx⟩ := Int.gcd_dvd_left out d
    obtain ⟨y, hy⟩ := Int.gcd_dvd_right out d
    generalize (Int.gcd out d : Nat) = g at *
    refine ⟨y, ?_⟩
    rw [hx, Int.mul_ediv_cancel_left _ (by omega)]
    rw [hy]
    rw [← Int.mul_assoc, Int.mul_comm x]
  · obtain ⟨z, hz⟩ := h1
    have hgd := Int.gcd_dvd_left out d
    have hl : out / (Int.gcd out d : Int) * d = (Int.lcm out d : Int) := by
      have e1 : (Int.gcd out d : Int) * (Int.lcm out d : Int) = (out * d) := by
        have := Int.gcd_mul_lcm out d
        have h3 : ((Int.gcd out d * Int.lcm out d : Nat) : Int) = ((out * d).natAbs : Int) := by rw [this, Int.natAbs_mul]
        rw [Int.natCast_mul] at h3
        rw [h3, Int.natAbs_of_nonneg (Int.le_of_lt (Int.mul_pos h0 hd))]
      obtain ⟨x, hx⟩ := hgd
      have hg0 : (Int.gcd out d : Int) ≠ 0 := by omega
      have e2 : out / (Int.gcd out d : Int) = x := by
        conv => lhs; lhs; rw [hx]
        exact Int.mul_ediv_cancel_left _ hg0
      rw [e2]
      have e3 : (Int.gcd out d : Int) * (Int.lcm out d : Int) = (Int.gcd out d : Int) * (x * d) := by
        rw [e1, ← Int.mul_assoc, ← hx]
      exact (Int.eq_of_mul_eq_mul_left hg0 e3).symm
    rw [hl]
    exact Int.coe_lcm_dvd ⟨z, hz⟩ h2
theorem cmn_dvd : ∀ (ds : List Int) (out : Int), 0 < out → (∀ d ∈ ds, 0 < d) → cmn out ds ≤ 1000000 → 0 < cmn out ds ∧ out ∣ cmn out ds ∧ ∀ d ∈ ds, d ∣ cmn out ds
  | [], out, h0, _, _ => ⟨h0, Int.dvd_refl _, by simp⟩
  | d :: ds, out, h0, hd, h => by
    obtain ⟨l1, l2, l3, _⟩ := lcm_facts h0 (hd d (by simp))
    rw [cmn] at h ⊢
    split at h
    · omega
    · rename_i hn
      rw [if_neg hn]
      obtain ⟨r1, r2, r3⟩ := cmn_dvd ds _ l1 (fun e he => hd e (by simp [he])) h
      refine ⟨r1, Int.dvd_trans l2 r2, fun e he => ?_⟩
      rcases List.mem_cons.1 he with rfl | he
      · exact Int.dvd_trans l3 r2
      · exact r3 e he
theorem cmn_le {D : Int} (hD : 0 < D ∧ D ≤ 1000000) : ∀ (ds : List Int) (out : Int), 0 < out → out ∣ D → (∀ d ∈ ds, 0 < d ∧ d ∣ D) → cmn out ds ≤ 1000000
  | [], out, h0, h, _ => by
    have := Int.le_of_dvd hD.1 h
    show out ≤ 1000000
    omega
  | d :: ds, out, h0, h, hd => by
    obtain ⟨l1, _, _, l4⟩ := lcm_facts h0 (hd d (by simp)).1
    have hl := l4 D h (hd d (by simp)).2
    have := Int.le_of_dvd hD.1 hl
    rw [cmn, if_neg (by omega)]
    exact cmn_le hD ds _ l1 hl (fun e he => hd e (by simp [he]))
section
variable {L : List Int} {ws : List (AV × List Int)} {x y : AV} {A : AHeap}
/-- The places of pieces that are accepted have a small denominator in common. -/
theorem CP.dv {V : List (List Int)} {pcs : List Pc} (h : CP L V pcs) : ∃ D : Int, (0 < D ∧ D ≤ 1000000) ∧ ∀ p ∈ pcs, Dv D (qr p.r) ∧ Dv D (qr p.s) := by
  have hpos : ∀ r ∈ plcs pcs, 0 < r.2 ∧ Int.gcd r.1 r.2 = 1 := by
    intro r hr
    obtain ⟨p, hp, hr⟩ := List.mem_flatMap.1 hr
    obtain ⟨j, hj, rfl⟩ := List.mem_iff_getElem.1 hp
    have := h.2.1 j hj
    simp only [List.mem_cons, List.not_mem_nil, or_false] at hr
    rcases hr with rfl | rfl
    · exact ⟨by have := this.2.2.1.1.1; omega, this.2.2.1.1.2⟩
    · exact ⟨by have := this.2.2.2.1.1.1; omega, this.2.2.2.1.1.2⟩
  obtain ⟨h1, _, h3⟩ := cmn_dvd ((plcs pcs).map Prod.snd) 1 (by omega) (fun d hd => by obtain ⟨r, hr, rfl⟩ := List.mem_map.1 hd; exact (hpos r hr).1) h.2.2.2
  have key : ∀ r ∈ plcs pcs, Dv (cmn 1 ((plcs pcs).map Prod.snd)) (qr r) := by
    intro r hr
    have e := R_of (hpos r hr).1 (hpos r hr).2
    have hd := (R_inj e.symm).2
    refine (Dv_self (qr r)).dvd ?_
    show ((((r.1 : Rat) / (r.2 : Rat)).den : Int)) ∣ _
    rw [hd]
    exact h3 _ (List.mem_map_of_mem hr)
  refine ⟨_, ⟨h1, h.2.2.2⟩, fun p hp => ⟨key _ (List.mem_flatMap.2 ⟨p, hp, by simp⟩), key _ (List.mem_flatMap.2 ⟨p, hp, by simp⟩)⟩⟩
theorem qr_zero : qr (0, 1) = ((0 : Int) : Rat) := by
  unfold qr
  rw [Rat.div_def]
  exact Rat.zero_mul _
theorem qr_one (n : Int) : qr (n, 1) = (n : Rat) := by
  unfold qr
  show (n : Rat) / ((1 : Int) : Rat) = (n : Rat)
  rw [int1]
  grind
theorem upTo_at0 {f : List (Int × Int)} (hg : good f) : upTo 0 f ((0 : Int) : Rat) = 0 := upTo_none _ f 0 (all_pos hg.2) Rat.le_refl
theorem isK_ends {V : List (List Int)} (h : KG L V) : isK L (0, 1) ∧ isK L (L.sum, 1) := by
  have := h.sum
  refine ⟨⟨⟨by omega, by decide⟩, by simp only; omega⟩, ⟨⟨by omega, by simp⟩, by simp only; omega⟩⟩
end
end Go.Proofs.Ytmblehbjedpjoaa

namespace Go.Proofs.Ytmblehbjedpjoaa
open Go Go.Eng
/-- The element that the search stops at. -/
def At (pcs : List Pc) (o : Int) (i : Nat) (p : Pc) : Prop := pcs[i]? = some p ∧ p.o = o ∧ ∀ j, j < i → ∀ q, pcs[j]? = some q → ¬ q.o = o
theorem ld_new (A : AHeap) (x : AV) (l : List AV) : ldA 1 false (.ptr A.length 0) (A ++ [.cells true (x :: l)]) = some x := by
  simp [ldA, partA]
theorem c_own1 (p : Pc) (o : Int) (A : AHeap) : ACalls Try.prog 123 [.agg (e5 p), .ptr A.length 0] (A ++ [.cells true [I o]]) (B (decide (p.o = o))) (A ++ [.cells true [I o]]) := by
  refine acalls hmix Try.func123 (by kernel_rfl) t123 2 rfl (by decide) ?_
  dsimp only [m123]
  simp (maxSteps := 4000000) -implicitDefEqProofs -dsimp (disch := omega) only [↓AW_ops, ↓AW_seq, ↓AW_ret, ↓AOps_nil, ↓AOps_pu, ↓AOps_ld, on_some, ↓then_normal, ↓Fin_ret, pval, lval, rd_S, rd_C, put_S, resV, resL, chkd, isAdr, bgot, AV.cells?, partA, eq_self, List.replicate_succ, List.replicate_zero, List.set_cons_zero, List.set_cons_succ, List.getElem?_cons_zero, List.getElem?_cons_succ, List.drop_zero, List.take_zero, List.take_succ_cons, Option.getD_some, List.length_cons, List.length_nil, Nat.reduceAdd, Nat.reduceSub, Nat.reduceLeDiff, Nat.zero_add, List.cons_append, List.nil_append, bin_eql, if_true, if_false, Bool.false_eq_true, e5, ld_new]
  exact gc_same rfl
theorem c_idx5 {pcs : List Pc} {v : AV} {A : AHeap} (hx : L5 A v pcs) (hl : pcs.length ≤ 1000000) (f : FuncId) (cap : List AV) (o : Int) (hg : ∀ p : Pc, ACalls Try.prog f ([.agg (e5 p)] ++ cap) A (B (decide (p.o = o))) A) {i : Nat} {p : Pc} (hp : At pcs o i p) : ACalls Try.prog 122 [v, .fn f cap] A (I i) A := by
  refine acalls hmix Try.func122 (by kernel_rfl) t122 2 rfl (by decide) ?_
  obtain ⟨h1, h2, h3⟩ := hp
  have hi0 : i < pcs.length := (List.getElem?_eq_some_iff.1 h1).1
  dsimp only [m122]
  simp (maxSteps := 4000000) -implicitDefEqProofs -dsimp (disch := omega) only [↓AW_ops, ↓AW_seq, ↓AW_block, ↓AOps_nil, ↓AOps_pu, on_some, ↓then_normal, pval, rd_S, rd_C, put_S, ↓AW_toLoop, List.replicate_succ, List.replicate_zero, List.set_cons_zero, List.set_cons_succ, List.getElem?_cons_zero, List.getElem?_cons_succ, Option.getD_some, Nat.reduceSub, List.cons_append, List.nil_append, hx.len]
  refine LoopK.by 19 (fun k : Nat => k ≤ i) (fun k => [(0, v), (1, .fn f cap), (7, I pcs.length), (8, I k)]) (fun _ => A) (fun k => pcs.length - k) 0 (by omega) rfl (by simp [Has, rd_s]) rfl ?_
  intro k hk
  have hlt : k < pcs.length := by omega
  obtain ⟨z, hz⟩ : ∃ z, pcs[k]? = some z := ⟨_, List.getElem?_eq_getElem hlt⟩
  have hlt' : (k : Int) < pcs.length := by omega
  have hcz := hg z
  unfold e5 at hcz
  simp (maxSteps := 4000000) -implicitDefEqProofs -dsimp (disch := omega) only [↓AW_skip, ↓AW_ops, ↓AW_seq, ↓AW_cond, ↓AW_block, ↓AOps_nil, ↓AOps_pu, ↓AOps_ld, ↓AOps_callv, on_some, CallF_fn, condB_t, ↓then_normal, pval, lval, rd_S, put_S, partA, eq_self, mk, List.foldl_cons, List.foldl_nil, List.replicate_succ, List.replicate_zero, List.set_cons_zero, List.set_cons_succ, List.getElem?_cons_zero, List.getElem?_cons_succ, List.drop_zero, List.take_succ_cons, List.take_nil, Option.getD_some, map_c, map_n, List.length_cons, List.length_nil, Nat.reduceAdd, Nat.reduceLeDiff, Nat.reduceEqDiff, Nat.zero_add, List.cons_append, List.nil_append, bin_lss, if_true, if_false, decide_true, hlt', hx.idx hlt, hx.ld0 hz 5 true (by decide), e5]
  by_cases hki : k = i
  · subst hki
    rw [hz] at h1
    have := Option.some.inj h1
    subst this
    refine CallK.of (hcz) ?_
    simp (maxSteps := 4000000) -implicitDefEqProofs -dsimp (disch := omega) only [↓AW_ops, ↓AW_seq, ↓AW_cond, ↓AW_ret, ↓AOps_nil, ↓AOps_pu, on_some, extK_same, condB_t, ↓then_normal, ↓then_ret, ↓inBlock_ret, ↓Fin_ret, pval, rd_S, put_S, resV, resL, eq_self, mk, List.foldl_cons, List.foldl_nil, List.replicate_succ, List.replicate_zero, List.set_cons_zero, List.set_cons_succ, List.getElem?_cons_zero, List.getElem?_cons_succ, Option.getD_some, decide_true, h2]
    exact gc_same rfl
  · have hne := h3 k (by omega) z hz
    refine CallK.of (hcz) ?_
    simp (maxSteps := 4000000) -implicitDefEqProofs -dsimp (disch := omega) only [↓AW_skip, ↓AW_ops, ↓AW_cond, ↓AOps_nil, ↓AOps_pu, on_some, extK_same, condB_f, ↓then_normal, ↓inBlock_normal, pval, rd_S, rd_C, put_S, eq_self, mk, List.foldl_cons, List.foldl_nil, List.replicate_succ, List.replicate_zero, List.set_cons_zero, List.set_cons_succ, List.getElem?_cons_zero, List.getElem?_cons_succ, Option.getD_some, List.length_cons, List.length_nil, Nat.reduceAdd, Nat.zero_add, bin_add, w64, decide_false, true_and, hne]
    exact ⟨k + 1, by omega, by simp [Has, rd_s], by omega⟩
theorem c_own {pcs : List Pc} {v : AV} {A : AHeap} (hx : L5 A v pcs) (hl : pcs.length ≤ 1000000) {o : Int} {i : Nat} {p : Pc} (hp : At pcs o i p) : ACalls Try.prog 101 [v, I o] A (.agg [I p.o, I p.r.1, I p.r.2, I p.s.1, I p.s.2]) A := by
  refine acalls hmix Try.func101 (by kernel_rfl) t101 2 rfl (by decide) ?_
  have hpr := pre_app A [.cells true [I o]]
  have hx1 := hx.mono hpr
  have hlt : i < pcs.length := (List.getElem?_eq_some_iff.1 hp.1).1
  dsimp only [m101]
  simp (maxSteps := 4000000) -implicitDefEqProofs -dsimp (disch := omega) only [↓AW_ops, ↓AW_seq, ↓AOps_nil, ↓AOps_pu, ↓AOps_ha, ↓AOps_call, on_some, extK_app, ↓then_normal, pval, hval, rd_S, rd_C, put_S, AV.cells?, List.replicate_succ, List.replicate_zero, List.set_cons_zero, List.set_cons_succ, List.getElem?_cons_zero, List.getElem?_cons_succ, Option.getD_some, map_c, map_n, Nat.reduceSub, List.cons_append, List.nil_append]
  refine CallK.of (c_idx5 hx1 hl 123 [.ptr A.length 0] o (fun p => c_own1 p o A) hp) ?_
  simp (maxSteps := 4000000) -implicitDefEqProofs -dsimp (disch := omega) only [↓AW_ret, ↓AOps_nil, ↓AOps_pu, ↓AOps_ld, on_some, extK_same, ↓then_normal, ↓Fin_ret, pval, lval, rd_S, put_S, resV, resL, chkd, bput, bgot, AV.cells?, splice, partA, eq_self, List.replicate_succ, List.replicate_zero, List.set_cons_zero, List.set_cons_succ, List.getElem?_cons_zero, List.getElem?_cons_succ, List.drop_zero, List.drop_succ_cons, List.drop_nil, List.take_zero, List.take_succ_cons, List.take_nil, Option.getD_some, List.length_cons, List.length_nil, Nat.reduceAdd, Nat.reduceSub, Nat.reduceLeDiff, Nat.reduceEqDiff, Nat.zero_add, List.cons_append, List.nil_append, List.append_nil, if_true, if_false, ne_eq, not_true_eq_false, hx1.idx hlt, hx1.ld0 hp.1 5 true (by decide), e5]
  exact gc_val hpr rfl
theorem pc_beq {z w : Pc} (h : z ≠ w) : (z.o == w.o && (z.r.1 == w.r.1 && (z.r.2 == w.r.2 && (z.s.1 == w.s.1 && z.s.2 == w.s.2)))) = false := by
  rw [Bool.eq_false_iff]
  intro he
  simp only [Bool.and_eq_true, beq_iff_eq] at he
  obtain ⟨h1, h2, h3, h4, h5⟩ := he
  obtain ⟨a, ⟨b, c⟩, ⟨d, e⟩⟩ := z
  obtain ⟨a', ⟨b', c'⟩, ⟨d', e'⟩⟩ := w
  simp only at h1 h2 h3 h4 h5
  subst h1 h2 h3 h4 h5
  exact h rfl
theorem c_same {xs ys : List Pc} {v u : AV} {A : AHeap} (hx : L5 A v xs) (hy : L5 A u ys) (hl : xs.length ≤ 1000000) : ACalls Try.prog 30 [v, u] A (B (decide (xs = ys))) A := by
  refine acalls hmix Try.func30 (by kernel_rfl) t30 2 rfl (by decide) ?_
  by_cases hle : xs.length = ys.length
  · have hle' : (xs.length : Int) = ys.length := by omega
    dsimp only [m30]
    simp (maxSteps := 4000000) -implicitDefEqProofs -dsimp (disch := omega) only [↓AW_skip, ↓AW_ops, ↓AW_seq, ↓AW_cond, ↓AW_block, ↓AOps_nil, ↓AOps_pu, on_some, condB_f, ↓then_normal, pval, rd_S, rd_C, put_S, ↓AW_toLoop, eq_self, List.replicate_succ, List.replicate_zero, List.set_cons_zero, List.set_cons_succ, List.getElem?_cons_zero, List.getElem?_cons_succ, Option.getD_some, Nat.reduceSub, List.cons_append, List.nil_append, bin_neq, decide_false, not_true_eq_false, hx.len, hy.len, hle']
    refine LoopK.by 26 (fun i : Nat => i ≤ xs.length ∧ xs.take i = ys.take i) (fun i => [(0, v), (1, u), (5, I i)]) (fun _ => A) (fun i => xs.length - i) 0 ⟨by omega, rfl⟩ rfl (by simp [Has, rd_s]) rfl ?_
    rintro i ⟨hi, he⟩
    by_cases hlt : i < xs.length
    · obtain ⟨z, hz⟩ : ∃ z, xs[i]? = some z := ⟨_, List.getElem?_eq_getElem hlt⟩
      have hlt' : (i : Int) < xs.length := by omega
      have hlt2 : i < ys.length := by omega
      obtain ⟨w, hw⟩ : ∃ w, ys[i]? = some w := ⟨_, List.getElem?_eq_getElem hlt2⟩
      by_cases hzw : z = w
      · subst hzw
        simp (maxSteps := 4000000) -implicitDefEqProofs -dsimp (disch := omega) only [↓AW_skip, ↓AW_ops, ↓AW_seq, ↓AW_cond, ↓AW_block, ↓AOps_nil, ↓AOps_pu, ↓AOps_ld, on_some, condB_t, condB_f, ↓then_normal, ↓inBlock_normal, pval, lval, rd_S, rd_C, put_S, partA, eqc, beq_self_eq_true, eq_self, mk, List.foldl_cons, List.foldl_nil, List.replicate_succ, List.replicate_zero, List.set_cons_zero, List.set_cons_succ, List.getElem?_cons_zero, List.getElem?_cons_succ, List.drop_zero, List.take_succ_cons, List.take_nil, Option.getD_some, Option.map_some, List.length_cons, List.length_nil, Nat.reduceAdd, Nat.reduceLeDiff, Nat.reduceEqDiff, Nat.zero_add, bin_add, bin_lss, w64, if_true, if_false, Bool.not_true, Bool.true_and, decide_true, true_and, hlt', hx.len, hx.idx hlt, hx.ld0 hz 5 true (by decide), hy.idx hlt2, hy.ld0 hw 5 true (by decide), e5]
        exact ⟨i + 1, ⟨hlt, by rw [List.take_add_one, List.take_add_one, hz, hw, he]⟩, by simp [Has, rd_s], by omega⟩
      · have hb := pc_beq hzw
        simp (maxSteps := 4000000) -implicitDefEqProofs -dsimp (disch := omega) only [↓AW_skip, ↓AW_ops, ↓AW_seq, ↓AW_cond, ↓AW_block, ↓AW_ret, ↓AOps_nil, ↓AOps_pu, ↓AOps_ld, on_some, condB_t, ↓then_normal, ↓then_ret, ↓inBlock_ret, ↓Fin_ret, pval, lval, rd_S, rd_C, put_S, resV, resL, partA, eqc, Bool.and_true, eq_self, mk, List.foldl_cons, List.foldl_nil, List.replicate_succ, List.replicate_zero, List.set_cons_zero, List.set_cons_succ, List.getElem?_cons_zero, List.getElem?_cons_succ, List.drop_zero, List.take_succ_cons, List.take_nil, Option.getD_some, Option.map_some, List.length_cons, List.length_nil, Nat.reduceAdd, Nat.reduceLeDiff, Nat.reduceEqDiff, Nat.zero_add, bin_lss, if_true, if_false, Bool.not_false, decide_true, hlt', hx.len, hx.idx hlt, hx.ld0 hz 5 true (by decide), hy.idx hlt2, hy.ld0 hw 5 true (by decide), e5, hb]
        refine gc_same ?_
        have : ¬ xs = ys := by rintro rfl; rw [hz] at hw; exact hzw (Option.some.inj hw)
        simp [this]
    · have hlt' : ¬ ((i : Int) < xs.length) := by omega
      simp (maxSteps := 4000000) -implicitDefEqProofs -dsimp (disch := omega) only [↓AW_ops, ↓AW_seq, ↓AW_cond, ↓AW_exit, ↓AW_ret, ↓AOps_nil, ↓AOps_pu, on_some, condB_f, ↓then_normal, ↓then_exit, ↓inBlock_exit, ↓Fin_ret, pval, rd_S, rd_C, put_S, resV, resL, eq_self, mk, List.foldl_cons, List.foldl_nil, List.replicate_succ, List.replicate_zero, List.set_cons_zero, List.set_cons_succ, List.getElem?_cons_zero, List.getElem?_cons_succ, Option.getD_some, bin_lss, if_true, decide_false, hlt', hx.len]
      rw [List.take_of_length_le (by omega), List.take_of_length_le (by omega)] at he
      exact gc_same (by simp [he])
  · have hle' : ¬ (xs.length : Int) = ys.length := by omega
    dsimp only [m30]
    simp (maxSteps := 4000000) -implicitDefEqProofs -dsimp (disch := omega) only [↓AW_ops, ↓AW_seq, ↓AW_cond, ↓AW_ret, ↓AOps_nil, ↓AOps_pu, on_some, condB_t, ↓then_normal, ↓then_ret, ↓Fin_ret, pval, rd_S, rd_C, put_S, resV, resL, List.replicate_succ, List.replicate_zero, List.set_cons_zero, List.set_cons_succ, List.getElem?_cons_zero, List.getElem?_cons_succ, Option.getD_some, Nat.reduceSub, List.cons_append, List.nil_append, bin_neq, decide_true, not_false_eq_true, hx.len, hy.len, hle']
    have : ¬ xs = ys := by rintro rfl; exact hle rfl
    exact gc_same (by simp [this])
section
variable {L : List Int} {ws : List (AV × List Int)} {x y : AV} {A : AHeap}
/-- Two pieces. -/
def pcs2 (L : List Int) (c : Int) (z : Rat) : List Pc := [⟨c, (0, 1), rp z⟩, ⟨1 - c, rp z, (L.sum, 1)⟩]
def cells2 (L : List Int) (c : Int) (z : Rat) : List AV := (pcs2 L c z).flatMap e5
theorem L5_2 (A : AHeap) (c : Int) (z : Rat) : L5 (A ++ [.cells true (cells2 L c z)]) (.sl 5 A.length 0 2 true) (pcs2 L c z) := ⟨e5_len, by simp [slCells, cellsAt, cells2, pcs2, e5]⟩
theorem c_halves (hL : L1 A x L) (h : KG L (lists ws)) (c : Int) (hc : c = 0 ∨ c = 1) (z : Rat) : ACalls Try.prog 74 [.agg [x, y], R z, I c] A (.sl 5 A.length 0 2 true) (A ++ [.cells true (cells2 L c z)]) := by
  refine acalls hmix Try.func74 (by kernel_rfl) t74 3 rfl (by decide) ?_
  dsimp only [m74]
  simp (maxSteps := 4000000) -implicitDefEqProofs -dsimp (disch := omega) only [↓AW_ops, ↓AW_seq, ↓AOps_nil, ↓AOps_pu, ↓AOps_call, on_some, ↓then_normal, pval, rd_S, rd_C, put_S, AV.cells?, List.replicate_succ, List.replicate_zero, List.set_cons_zero, List.set_cons_succ, List.getElem?_cons_zero, List.getElem?_cons_succ, Option.getD_some, map_c, map_n, Nat.reduceSub, List.cons_append, List.nil_append]
  refine CallK.of (s76 _ _) ?_
  simp (maxSteps := 4000000) -implicitDefEqProofs -dsimp (disch := omega) only [↓AOps_pu, ↓AOps_call, on_some, extK_same, pval, rd_S, rd_C, put_S, chkd, bgot, AV.cells?, splice, partA, fillA, eq_self, List.replicate_succ, List.replicate_zero, List.set_cons_zero, List.set_cons_succ, List.getElem?_cons_zero, List.getElem?_cons_succ, List.drop_zero, List.drop_succ_cons, List.drop_nil, List.take_zero, List.take_succ_cons, List.take_nil, Option.getD_some, Option.map_some, map_c, map_n, List.length_cons, List.length_nil, Nat.reduceAdd, Nat.reduceSub, Nat.reduceLeDiff, Nat.reduceEqDiff, Nat.zero_add, List.cons_append, List.nil_append, List.append_nil, bin_sub, w64, if_true, if_false, and_true]
  refine CallK.of (c_end (y := y) hL h) ?_
  simp (maxSteps := 4000000) -implicitDefEqProofs -dsimp (disch := omega) only [↓AOps_call, extK_same, rd_S, put_S, List.replicate_succ, List.replicate_zero, List.set_cons_zero, List.set_cons_succ, List.getElem?_cons_zero, List.getElem?_cons_succ, Option.getD_some, map_c, map_n, Nat.reduceSub, List.cons_append, List.nil_append]
  refine CallK.of (s76 _ _) ?_
  simp (maxSteps := 4000000) -implicitDefEqProofs -dsimp (disch := omega) only [↓AW_ret, ↓AOps_nil, ↓AOps_pu, ↓AOps_ha, on_some, extK_app, extK_same, ↓then_normal, ↓Fin_ret, pval, hval, rd_S, put_S, resV, resL, AV.cells?, splice, fillA, repl, eq_self, List.replicate_succ, List.replicate_zero, List.set_cons_zero, List.set_cons_succ, List.getElem?_cons_zero, List.getElem?_cons_succ, List.drop_zero, List.drop_succ_cons, List.drop_nil, List.take_zero, List.take_succ_cons, Option.getD_some, Option.map_some, map_c, map_n, List.length_cons, List.length_nil, Nat.reduceAdd, Nat.reduceSub, Nat.reduceLeDiff, Nat.zero_add, List.cons_append, List.nil_append, List.append_nil, if_true, and_true, R]
  exact gc_all
theorem c_cutAt (hL : L1 A x L) (hV : LL A y ws) (h : KG L (lists ws)) (c : Int) (hc : c = 0 ∨ c = 1) (z : Rat) : ACalls Try.prog 81 [.agg [x, y], I c, R z] A (.sl 5 A.length 0 2 true) (A ++ [.cells true (cells2 L c z)]) := by
  refine acalls hmix Try.func81 (by kernel_rfl) t81 3 rfl (by decide) ?_
  dsimp only [m81]
  simp (maxSteps := 4000000) -implicitDefEqProofs -dsimp (disch := omega) only [↓AW_ops, ↓AW_seq, ↓AOps_nil, ↓AOps_pu, ↓AOps_call, on_some, ↓then_normal, pval, rd_S, rd_C, put_S, AV.cells?, List.replicate_succ, List.replicate_zero, List.set_cons_zero, List.set_cons_succ, List.getElem?_cons_zero, List.getElem?_cons_succ, Option.getD_some, map_c, map_n, Nat.reduceSub, List.cons_append, List.nil_append]
  refine CallK.of (s36 _ _) ?_
  simp (maxSteps := 4000000) -implicitDefEqProofs -dsimp (disch := omega) only [↓AOps_pu, ↓AOps_call, on_some, extK_same, pval, rd_S, rd_C, put_S, chkd, bgot, AV.cells?, splice, partA, fillA, eq_self, List.replicate_succ, List.replicate_zero, List.set_cons_zero, List.set_cons_succ, List.getElem?_cons_zero, List.getElem?_cons_succ, List.drop_zero, List.drop_succ_cons, List.drop_nil, List.take_zero, List.take_succ_cons, List.take_nil, Option.getD_some, Option.map_some, map_c, map_n, List.length_cons, List.length_nil, Nat.reduceAdd, Nat.reduceSub, Nat.reduceLeDiff, Nat.reduceEqDiff, Nat.zero_add, List.cons_append, List.nil_append, List.append_nil, bin_sub, w64, if_true, if_false, and_true]
  refine CallK.of (c_rend hL hV h) ?_
  simp (maxSteps := 4000000) -implicitDefEqProofs -dsimp (disch := omega) only [↓AW_ret, ↓AOps_nil, ↓AOps_pu, ↓AOps_ha, on_some, extK_app, extK_same, ↓then_normal, ↓Fin_ret, pval, hval, rd_S, put_S, resV, resL, AV.cells?, splice, fillA, repl, eq_self, List.replicate_succ, List.replicate_zero, List.set_cons_zero, List.set_cons_succ, List.getElem?_cons_zero, List.getElem?_cons_succ, List.drop_zero, List.drop_succ_cons, List.drop_nil, List.take_zero, List.take_succ_cons, Option.getD_some, Option.map_some, map_c, map_n, List.length_cons, List.length_nil, Nat.reduceAdd, Nat.reduceSub, Nat.reduceLeDiff, Nat.zero_add, List.cons_append, List.nil_append, List.append_nil, if_true, and_true, R]
  exact gc_all
/-- The first error of a field that must have two owners. -/
def twE (L : List Int) (V : List (List Int)) : Int := if kE L V = 0 then (if (V.length : Int) = 2 then 0 else 5) else kE L V
theorem s73 (hL : L1 A x L) (hV : LL A y ws) (hs : Sz L ws) : ACalls Try.prog 73 [.agg [x, y]] A (I (twE L (lists ws))) A := by
  refine acalls hmix Try.func73 (by kernel_rfl) t73 1 rfl (by decide) ?_
  have hll : ((lists ws).length : Int) = ws.length := by simp
  dsimp only [m73]
  simp (maxSteps := 4000000) -implicitDefEqProofs -dsimp (disch := omega) only [↓AW_ops, ↓AW_seq, ↓AOps_nil, ↓AOps_pu, ↓AOps_call, on_some, ↓then_normal, pval, rd_S, rd_C, put_S, chkd, bgot, AV.cells?, partA, eq_self, List.replicate_succ, List.replicate_zero, List.set_cons_zero, List.set_cons_succ, List.getElem?_cons_zero, List.getElem?_cons_succ, List.drop_zero, List.take_succ_cons, List.take_nil, Option.getD_some, map_c, map_n, List.length_cons, List.length_nil, Nat.reduceAdd, Nat.reduceSub, Nat.reduceLeDiff, Nat.reduceEqDiff, Nat.zero_add, List.cons_append, List.nil_append, if_true, if_false]
  refine CallK.of (s26 hL hV hs.l hs.v hs.w) ?_
  by_cases h0 : kE L (lists ws) = 0
  · by_cases h1 : (ws.length : Int) = 2
    · simp (maxSteps := 4000000) -implicitDefEqProofs -dsimp (disch := omega) only [↓AW_skip, ↓AW_ops, ↓AW_seq, ↓AW_cond, ↓AW_ret, ↓AOps_nil, ↓AOps_pu, on_some, extK_same, condB_f, ↓then_normal, ↓Fin_ret, pval, rd_S, rd_C, put_S, resV, resL, chkd, isAdr, bgot, AV.cells?, partA, eq_self, List.replicate_succ, List.replicate_zero, List.set_cons_zero, List.set_cons_succ, List.getElem?_cons_zero, List.getElem?_cons_succ, List.drop_zero, List.drop_succ_cons, List.take_succ_cons, List.take_nil, Option.getD_some, List.length_cons, List.length_nil, Nat.reduceAdd, Nat.reduceSub, Nat.reduceLeDiff, Nat.zero_add, List.cons_append, List.nil_append, bin_neq, if_true, if_false, Bool.false_eq_true, decide_false, not_true_eq_false, h0, hV.ls.len, h1]
      exact gc_same (by rw [twE, if_pos h0, hll, if_pos h1])
    · simp (maxSteps := 4000000) -implicitDefEqProofs -dsimp (disch := omega) only [↓AW_skip, ↓AW_ops, ↓AW_seq, ↓AW_cond, ↓AW_ret, ↓AOps_nil, ↓AOps_pu, on_some, extK_same, condB_t, condB_f, ↓then_normal, ↓then_ret, ↓Fin_ret, pval, rd_S, rd_C, put_S, resV, resL, chkd, isAdr, bgot, AV.cells?, partA, eq_self, List.replicate_succ, List.replicate_zero, List.set_cons_zero, List.set_cons_succ, List.getElem?_cons_zero, List.getElem?_cons_succ, List.drop_zero, List.drop_succ_cons, List.take_succ_cons, List.take_nil, Option.getD_some, List.length_cons, List.length_nil, Nat.reduceAdd, Nat.reduceSub, Nat.reduceLeDiff, Nat.zero_add, List.cons_append, List.nil_append, bin_neq, if_true, if_false, Bool.false_eq_true, decide_true, decide_false, not_true_eq_false, not_false_eq_true, h0, hV.ls.len, h1]
      exact gc_same (by rw [twE, if_pos h0, hll, if_neg h1])
  · simp (maxSteps := 4000000) -implicitDefEqProofs -dsimp (disch := omega) only [↓AW_ops, ↓AW_seq, ↓AW_cond, ↓AW_ret, ↓AOps_nil, ↓AOps_pu, on_some, extK_same, condB_t, ↓then_normal, ↓then_ret, ↓Fin_ret, pval, rd_S, rd_C, put_S, resV, resL, List.replicate_succ, List.replicate_zero, List.set_cons_zero, List.set_cons_succ, List.getElem?_cons_zero, List.getElem?_cons_succ, Option.getD_some, Nat.reduceSub, List.cons_append, List.nil_append, bin_neq, decide_true, not_false_eq_true, h0]
    exact gc_same (by rw [twE, if_neg h0])
theorem s78 (hL : L1 A x L) (hV : LL A y ws) (hs : Sz L ws) : ACalls Try.prog 78 [.agg [x, y]] A (I (twE L (lists ws))) A := by
  refine acalls hmix Try.func78 (by kernel_rfl) t78 1 rfl (by decide) ?_
  have hll : ((lists ws).length : Int) = ws.length := by simp
  dsimp only [m78]
  simp (maxSteps := 4000000) -implicitDefEqProofs -dsimp (disch := omega) only [↓AW_ops, ↓AW_seq, ↓AOps_nil, ↓AOps_pu, ↓AOps_call, on_some, ↓then_normal, pval, rd_S, rd_C, put_S, chkd, bgot, AV.cells?, partA, eq_self, List.replicate_succ, List.replicate_zero, List.set_cons_zero, List.set_cons_succ, List.getElem?_cons_zero, List.getElem?_cons_succ, List.drop_zero, List.take_succ_cons, List.take_nil, Option.getD_some, map_c, map_n, List.length_cons, List.length_nil, Nat.reduceAdd, Nat.reduceSub, Nat.reduceLeDiff, Nat.reduceEqDiff, Nat.zero_add, List.cons_append, List.nil_append, if_true, if_false]
  refine CallK.of (s27 hL hV hs.l hs.v hs.w) ?_
  by_cases h0 : kE L (lists ws) = 0
  · by_cases h1 : (ws.length : Int) = 2
    · simp (maxSteps := 4000000) -implicitDefEqProofs -dsimp (disch := omega) only [↓AW_skip, ↓AW_ops, ↓AW_seq, ↓AW_cond, ↓AW_ret, ↓AOps_nil, ↓AOps_pu, ↓AOps_guard, on_some, extK_same, guardB_tt, condB_f, ↓then_normal, ↓Fin_ret, pval, rd_S, rd_C, put_S, resV, resL, chkd, isAdr, bgot, AV.cells?, partA, eq_self, List.replicate_succ, List.replicate_zero, List.set_cons_zero, List.set_cons_succ, List.getElem?_cons_zero, List.getElem?_cons_succ, List.drop_zero, List.drop_succ_cons, List.take_succ_cons, List.take_nil, Option.getD_some, List.length_cons, List.length_nil, Nat.reduceAdd, Nat.reduceSub, Nat.reduceLeDiff, Nat.zero_add, List.cons_append, List.nil_append, bin_eql, bin_neq, if_true, if_false, Bool.false_eq_true, decide_true, decide_false, not_true_eq_false, h0, hV.ls.len, h1]
      exact gc_same (by rw [twE, if_pos h0, hll, if_pos h1])
    · simp (maxSteps := 4000000) -implicitDefEqProofs -dsimp (disch := omega) only [↓AW_ops, ↓AW_seq, ↓AW_cond, ↓AW_ret, ↓AOps_nil, ↓AOps_pu, ↓AOps_guard, on_some, extK_same, guardB_tt, condB_t, ↓then_normal, ↓then_ret, ↓Fin_ret, pval, rd_S, rd_C, put_S, resV, resL, chkd, isAdr, bgot, AV.cells?, partA, eq_self, List.replicate_succ, List.replicate_zero, List.set_cons_zero, List.set_cons_succ, List.getElem?_cons_zero, List.getElem?_cons_succ, List.drop_zero, List.drop_succ_cons, List.take_succ_cons, List.take_nil, Option.getD_some, List.length_cons, List.length_nil, Nat.reduceAdd, Nat.reduceSub, Nat.reduceLeDiff, Nat.zero_add, List.cons_append, List.nil_append, bin_eql, bin_neq, if_true, if_false, Bool.false_eq_true, decide_true, not_false_eq_true, h0, hV.ls.len, h1]
      exact gc_same (by rw [twE, if_pos h0, hll, if_neg h1])
  · simp (maxSteps := 4000000) -implicitDefEqProofs -dsimp (disch := omega) only [↓AW_skip, ↓AW_ops, ↓AW_seq, ↓AW_cond, ↓AW_ret, ↓AOps_nil, ↓AOps_pu, ↓AOps_guard, on_some, extK_same, guardB_ft, skipS_some, condB_f, ↓then_normal, ↓Fin_ret, pval, rd_S, rd_C, put_S, resV, resL, List.replicate_succ, List.replicate_zero, List.set_cons_zero, List.set_cons_succ, List.getElem?_cons_zero, List.getElem?_cons_succ, Option.getD_some, Nat.reduceSub, List.cons_append, List.nil_append, bin_eql, if_false, Bool.false_eq_true, decide_false, h0]
    exact gc_same (by rw [twE, if_neg h0])
theorem twE_0 {ws : List (AV × List Int)} (h : twE L (lists ws) = 0) : KG L (lists ws) ∧ ∃ w0 w1, ws = [w0, w1] := by
  unfold twE at h
  split at h
  · rename_i h0
    split at h
    · rename_i h1
      have hll : ((lists ws).length : Int) = ws.length := by simp
      have hl2 : ws.length = 2 := by omega
      match ws, hl2 with
      | [a, b], _ => exact ⟨KG.of h0, a, b, rfl⟩
    · cases h
  · rename_i h0; exact absurd h h0
theorem rp_isK {V : List (List Int)} (h : KG L V) {z : Rat} (h0 : 0 ≤ z) (h1 : z ≤ ((L.sum : Int) : Rat)) (hd : (z.den : Int) ≤ 1000000) : isK L (rp z) ∧ qr (rp z) = z := by
  refine ⟨⟨⟨⟨?_, hd⟩, ?_⟩, ?_, ?_⟩, (R_self z).symm⟩
  · have := den_pos z
    show 1 ≤ (z.den : Int)
    omega
  · show Int.gcd z.num (z.den : Int) = 1
    have := z.reduced
    unfold Int.gcd
    simpa [Nat.Coprime] using this
  · exact Rat.num_nonneg.2 h0
  · rw [Rat.le_iff] at h1
    have h1 : z.num * (1 : Int) ≤ L.sum * (z.den : Int) := h1
    show z.num ≤ L.sum * (z.den : Int)
    omega
theorem CP2 {V : List (List Int)} (h : KG L V) (hV2 : V.length = 2) {z : Rat} (h0 : 0 ≤ z) (h1 : z ≤ ((L.sum : Int) : Rat)) (hd : (z.den : Int) ≤ 1000000) {c : Int} (hc : c = 0 ∨ c = 1) : CP L V (pcs2 L c z) := by
  obtain ⟨k1, k2⟩ := rp_isK h h0 h1 hd
  obtain ⟨i1, i2⟩ := isK_ends h
  have hdp := den_pos z
  refine ⟨by simp [pcs2, hV2], fun i hi => ?_, rfl, ?_⟩
  · have hi2 : i = 0 ∨ i = 1 := by simp [pcs2] at hi; omega
    rcases hi2 with rfl | rfl
    · refine ⟨by show 0 ≤ c ∧ c ≤ (V.length : Int) - 1; omega, by simp, i1, k1, rfl, ?_⟩
      show ¬ qr (rp z) < qr (0, 1)
      rw [k2, qr_zero]
      exact Rat.not_lt.2 h0
    · refine ⟨by show 0 ≤ 1 - c ∧ 1 - c ≤ (V.length : Int) - 1; omega, ?_, k1, i2, rfl, ?_⟩
      · show ¬ (1 - c) ∈ [c]
        simp
        omega
      · show ¬ qr (L.sum, 1) < qr (rp z)
        rw [k2, qr_one]
        exact Rat.not_lt.2 h1
  · refine cmn_le (D := z.den) ⟨hdp, hd⟩ _ 1 (by omega) (Int.one_dvd _) ?_
    intro d hdm
    have : d = 1 ∨ d = (z.den : Int) := by simp [plcs, pcs2, rp] at hdm; omega
    rcases this with rfl | rfl
    · exact ⟨by omega, Int.one_dvd _⟩
    · exact ⟨hdp, Int.dvd_refl _⟩
end
end Go.Proofs.Ytmblehbjedpjoaa

namespace Go.Proofs.Ytmblehbjedpjoaa
open Go Go.Eng
theorem rch_ex (x : Rat) : ∀ (us : List Int) (b a : Int), (a : Rat) < x → x ≤ ((a + us.sum : Int) : Rat) → ∃ z, rch b a us x = some z
  | [], b, a, h, k => by
    rw [List.sum_nil, Int.add_zero] at k
    exact absurd h (Rat.not_lt.2 k)
  | u :: us, b, a, h, k => by
    rw [rch]
    split
    · exact ⟨_, rfl⟩
    · rename_i hn
      rw [List.sum_cons, ← Int.add_assoc] at k
      exact rch_ex x us (b + 1) (a + u) (Rat.not_le.1 hn) k
theorem Dv_den {D : Int} {q : Rat} (hD : 0 < D) (h : Dv D q) : (q.den : Int) ≤ D := by
  obtain ⟨k, hk⟩ := h
  have e : q = (k : Rat) / (D : Rat) := by have := cast_ne (show D ≠ 0 by omega); grind
  have := (ratio_le k D hD).2
  rw [← e] at this
  exact this
section
variable {L : List Int} {ws : List (AV × List Int)} {x y : AV} {A : AHeap}
theorem upTo_end {V : List (List Int)} (h : KG L V) {r : List Int} (hr : r ∈ V) : upTo 0 (L.zip r) ((L.sum : Int) : Rat) = ((tot (L.zip r) : Int) : Rat) := by
  have hg := h.gd hr
  exact upTo_full _ _ 0 (all_pos hg.2) (by rw [Int.zero_add, h.lenz hr]; exact Rat.le_refl)
theorem flat_e5 (p : Pc) : ∀ y ∈ e5 p, flat y = true := by simp [e5, flat]
theorem OL_pcs2 {A A1 : AHeap} (hp : A <+: A1) (c : Int) (z : Rat) : OL 5 e5 A (A1 ++ [.cells true (cells2 L c z)]) A1.length (.sl 5 A1.length 0 2 true) (pcs2 L c z) :=
  ⟨e5_len, hp.trans (pre_app _ _), hp.length_le, by simp [cells2], true, rfl⟩
end
end Go.Proofs.Ytmblehbjedpjoaa

namespace Go.Proofs.Ytmblehbjedpjoaa
open Go Go.Eng
section
variable {L : List Int} {ws : List (AV × List Int)} {x y : AV} {A : AHeap}
/-- What a piece is worth. -/
def pwo (f : List (Int × Int)) (p : Pc) : Rat := upTo 0 f (qr p.s) - upTo 0 f (qr p.r)
theorem CP.at {V : List (List Int)} {pcs : List Pc} (h : CP L V pcs) {p : Pc} (hp : p ∈ pcs) : isK L p.r ∧ isK L p.s ∧ qr p.r ≤ qr p.s := by
  obtain ⟨j, hj, rfl⟩ := List.mem_iff_getElem.1 hp
  have := h.2.1 j hj
  exact ⟨this.2.2.1, this.2.2.2.1, Rat.not_lt.1 this.2.2.2.2.2⟩
theorem c_pwo (hL : L1 A x L) (hV : LL A y ws) (h : KG L (lists ws)) {pcs : List Pc} (hc : CP L (lists ws) pcs) {o : Nat} {w : AV × List Int} (ho : ws[o]? = some w) {p : Pc} (hp : p ∈ pcs) :
    ACalls Try.prog 66 [.agg [x, y], I o, .agg [I p.r.1, I p.r.2], .agg [I p.s.1, I p.s.2]] A (R (pwo (L.zip w.2) p)) A := by
  have hmr := mem_lists (List.mem_of_getElem? ho)
  obtain ⟨h1, h2, h3⟩ := hc.at hp
  obtain ⟨k1, _, _, p1⟩ := isK_R h h1
  obtain ⟨k2, _, _, p2⟩ := isK_R h h2
  rw [k1, k2]
  exact c_worth hL hV h ho _ _ (p1 _ hmr) (p2 _ hmr) h3
theorem pwo_facts {V : List (List Int)} (h : KG L V) {pcs : List Pc} (hc : CP L V pcs) {r : List Int} (hr : r ∈ V) {p : Pc} (hp : p ∈ pcs) : 0 ≤ pwo (L.zip r) p ∧ pwo (L.zip r) p ≤ ((tot (L.zip r) : Int) : Rat) ∧ Sm (pwo (L.zip r) p) ∧ ((pwo (L.zip r) p).num.natAbs ≤ 2400000000 ∧ ((pwo (L.zip r) p).den : Int) ≤ 1000000) := by
  obtain ⟨D, hD, hDp⟩ := hc.dv
  obtain ⟨h1, h2, h3⟩ := hc.at hp
  obtain ⟨d1, d2⟩ := hDp p hp
  have hg := h.gd hr
  obtain ⟨_, _, _, p2⟩ := isK_R h h2
  have hle := (p2 _ hr).le
  have b1 := upTo_bounds hg 0 (qr p.r)
  have b2 := upTo_bounds hg 0 (qr p.s)
  have hmo := upTo_mono h3 (L.zip r) 0 hg.2
  have hm2 := upTo_mono hle.2 (L.zip r) 0 hg.2
  rw [h.lenz hr, upTo_end h hr] at hm2
  unfold pwo
  have w0 : 0 ≤ upTo 0 (L.zip r) (qr p.s) - upTo 0 (L.zip r) (qr p.r) := by grind
  have w1 : upTo 0 (L.zip r) (qr p.s) - upTo 0 (L.zip r) (qr p.r) ≤ ((2400 : Int) : Rat) := by grind
  have dw := (upTo_Dv d2 (L.zip r) 0).sub (upTo_Dv d1 (L.zip r) 0)
  have nw := num_le (M := 2400) hD.1 dw (int_neg_le_zero (by omega) w0) w1
  exact ⟨w0, by grind, Sm_of (M := 2400) hD.1 (by omega) (by omega) dw (int_neg_le_zero (by omega) w0) w1, by omega, by omega⟩
theorem At.o {pcs : List Pc} {o : Int} {i : Nat} {p : Pc} (h : At pcs o i p) : p ∈ pcs ∧ p.o = o := ⟨List.mem_of_getElem? h.1, h.2.1⟩
theorem num_W {z : Rat} {M : Int} (h0 : 0 ≤ z) (h1 : z ≤ (M : Rat)) (hM : M ≤ 1000000) (hd : (z.den : Int) ≤ 1000000) : W z.num := by
  have hM0 : 0 ≤ M := by
    have := Rat.le_trans h0 h1
    rw [← int0] at this
    exact Rat.intCast_le_intCast.1 this
  have := num_le (M := M) (den_pos z) (Dv_self z) (int_neg_le_zero hM0 h0) h1
  have hm := Int.mul_le_mul hM hd (by have := den_pos z; omega) (by omega : (0 : Int) ≤ 1000000)
  constructor <;> omega
/-- The words of two pieces. -/
theorem pcs2_W {V : List (List Int)} (h : KG L V) {z : Rat} (h0 : 0 ≤ z) (h1 : z ≤ ((L.sum : Int) : Rat)) (hd : (z.den : Int) ≤ 1000000) (c : Int) : ∀ p ∈ pcs2 L c z, W p.r.1 ∧ W p.s.1 := by
  have hs := h.sum
  have hw := num_W h0 h1 (by omega) hd
  intro p hp
  simp only [pcs2, List.mem_cons, List.not_mem_nil, or_false] at hp
  rcases hp with rfl | rfl
  · exact ⟨by show W 0; omega, hw⟩
  · exact ⟨hw, by show W L.sum; omega⟩
end
end Go.Proofs.Ytmblehbjedpjoaa

namespace Go.Proofs.Ytmblehbjedpjoaa
open Go Go.Eng
/-- What is found, where units are worth up to 'B'. -/
theorem rch_someB {B : Int} (x : Rat) : ∀ (us : List Int) (b a : Int) (y : Rat), (∀ u ∈ us, 0 ≤ u ∧ u ≤ B) → (a : Rat) < x → rch b a us x = some y →
    (∃ v : Int, (1 ≤ v ∧ v ≤ B) ∧ ∃ b' a' : Int, y = (b' : Rat) + (x - (a' : Rat)) / (v : Rat)) ∧ ((b : Rat) ≤ y ∧ y ≤ ((b + us.length : Int) : Rat)) ∧ upToU b us y = x - (a : Rat)
  | [], _, _, _, _, _, h => by simp [rch] at h
  | u :: us, b, a, y, hu, hx, h => by
    have hu0 := hu u (by simp)
    have e2 : b + ((u :: us).length : Int) = b + 1 + us.length := by simp; omega
    rw [rch] at h
    split at h
    · rename_i h1
      have hy : (b : Rat) + (x - (a : Rat)) / (u : Rat) = y := Option.some.inj h
      have hup : 0 < u := by
        have : (a : Rat) < ((a + u : Int) : Rat) := rat_lt_le hx h1
        have := Rat.intCast_lt_intCast.1 this
        omega
      have hup' := cast_pos hup
      have d0 : 0 ≤ (x - (a : Rat)) / (u : Rat) := by rw [Rat.div_def]; exact Rat.mul_nonneg (by grind) (Rat.le_of_lt (Rat.inv_pos.2 hup'))
      have d2 : (x - (a : Rat)) / (u : Rat) * (u : Rat) = x - (a : Rat) := Rat.div_mul_cancel (cast_ne (by omega))
      have d1 : (x - (a : Rat)) / (u : Rat) ≤ 1 := by
        refine Rat.le_of_mul_le_mul_right ?_ hup'
        rw [d2, Rat.one_mul]
        rw [Rat.intCast_add] at h1
        grind
      have hb1 : ((b + 1 : Int) : Rat) = (b : Rat) + 1 := by rw [Rat.intCast_add]; rfl
      have hle : ((b + 1 : Int) : Rat) ≤ ((b + 1 + us.length : Int) : Rat) := Rat.intCast_le_intCast.2 (by omega)
      refine ⟨⟨u, ⟨by omega, hu0.2⟩, b, a, hy.symm⟩, ⟨by grind, by rw [e2]; grind⟩, ?_⟩
      rw [upToU, upToU_zero y us (b + 1) (by grind)]
      have : clamp y (b : Rat) ((b + 1 : Int) : Rat) = y := by unfold clamp; grind
      rw [this, ← hy]
      grind
    · rename_i h1
      obtain ⟨h2, ⟨h3, h4⟩, h5⟩ := rch_someB x us (b + 1) (a + u) y (fun w hw => hu w (by simp [hw])) (Rat.not_le.1 h1) h
      have hb : (b : Rat) ≤ ((b + 1 : Int) : Rat) := Rat.intCast_le_intCast.2 (by omega)
      refine ⟨h2, ⟨Rat.le_trans hb h3, by rw [e2]; exact h4⟩, ?_⟩
      rw [upToU, h5]
      have : clamp y (b : Rat) ((b + 1 : Int) : Rat) = ((b + 1 : Int) : Rat) := by unfold clamp; grind
      have hb1 : ((b + 1 : Int) : Rat) = (b : Rat) + 1 := by rw [Rat.intCast_add]; rfl
      rw [this, hb1, Rat.intCast_add]
      grind
theorem rch_unitsG (x : Rat) : ∀ (f : List (Int × Int)) (b a : Int), (∀ z ∈ f, 1 ≤ z.1 ∧ 0 ≤ z.2) → (a : Rat) < x → rch b a (units f) x = rz b a f x
  | [], _, _, _, _ => rfl
  | z :: f, b, a, h, hx => by
    have hz := h z (by simp)
    have e : ((z.1.toNat : Nat) : Int) = z.1 := Int.toNat_of_nonneg (by omega)
    have : units (z :: f) = List.replicate z.1.toNat z.2 ++ units f := rfl
    rw [this, rch_rep z.2 hz.2 _ x _ b a hx, e, rz]
    split
    · rfl
    · rename_i h1
      exact rch_unitsG x f _ _ (fun y hy => h y (by simp [hy])) (Rat.not_le.1 h1)
theorem upToU_units_gen (x : Rat) : ∀ (f : List (Int × Int)) (b : Int), (∀ z ∈ f, 1 ≤ z.1) → upToU b (units f) x = upTo b f x
  | [], _, _ => rfl
  | z :: f, b, h => by
    have hz := h z (by simp)
    have e : ((z.1.toNat : Nat) : Int) = z.1 := Int.toNat_of_nonneg (by omega)
    have : units (z :: f) = List.replicate z.1.toNat z.2 ++ units f := rfl
    rw [this, upToU_rep, e, upToU_units_gen x f _ (fun y hy => h y (by simp [hy])), upTo]
/-- Both values of a unit, each times the other one's all. -/
def mx2 (a b : Int) (v w : Int) : Int := v * b + w * a
def mrow (a b : Int) (r s : List Int) : List Int := List.zipWith (mx2 a b) r s
theorem units_mrow (a b : Int) : ∀ (L r s : List Int), r.length = L.length → s.length = L.length → units (L.zip (mrow a b r s)) = List.zipWith (mx2 a b) (units (L.zip r)) (units (L.zip s))
  | [], r, s, _, _ => rfl
  | n :: L, [], s, h, _ => by simp at h
  | n :: L, v :: r, [], _, h => by simp at h
  | n :: L, v :: r, w :: s, h1, h2 => by
    have ih := units_mrow a b L r s (by simpa using h1) (by simpa using h2)
    show List.replicate n.toNat (mx2 a b v w) ++ units (L.zip (mrow a b r s)) = List.zipWith (mx2 a b) (List.replicate n.toNat v ++ units (L.zip r)) (List.replicate n.toNat w ++ units (L.zip s))
    rw [ih, List.zipWith_append (by simp)]
    congr 1
    rw [List.zipWith_replicate]
    simp
theorem upTo_mrow (a b : Int) (z : Rat) : ∀ (L r s : List Int) (c : Int), r.length = L.length → s.length = L.length → upTo c (L.zip (mrow a b r s)) z = upTo c (L.zip r) z * (b : Rat) + upTo c (L.zip s) z * (a : Rat)
  | [], r, s, c, _, _ => by
    simp only [List.zip_nil_left, upTo]
    grind
  | n :: L, [], s, _, h, _ => by simp at h
  | n :: L, v :: r, [], _, _, h => by simp at h
  | n :: L, v :: r, w :: s, c, h1, h2 => by
    have ih := upTo_mrow a b z L r s (c + n) (by simpa using h1) (by simpa using h2)
    show (clamp z (c : Rat) ((c + n : Int) : Rat) - (c : Rat)) * ((mx2 a b v w : Int) : Rat) + upTo (c + n) (L.zip (mrow a b r s)) z = _
    have e : ((mx2 a b v w : Int) : Rat) = (v : Rat) * (b : Rat) + (w : Rat) * (a : Rat) := by unfold mx2; rw [Rat.intCast_add, Rat.intCast_mul, Rat.intCast_mul]
    rw [ih, e]
    show _ = ((clamp z (c : Rat) ((c + n : Int) : Rat) - (c : Rat)) * (v : Rat) + upTo (c + n) (L.zip r) z) * (b : Rat) + ((clamp z (c : Rat) ((c + n : Int) : Rat) - (c : Rat)) * (w : Rat) + upTo (c + n) (L.zip s) z) * (a : Rat)
    grind
theorem tot_mrow (a b : Int) : ∀ (L r s : List Int), r.length = L.length → s.length = L.length → tot (L.zip (mrow a b r s)) = tot (L.zip r) * b + tot (L.zip s) * a
  | [], r, s, _, _ => by simp [tot, sumZ]
  | n :: L, [], s, h, _ => by simp at h
  | n :: L, v :: r, [], _, h => by simp at h
  | n :: L, v :: r, w :: s, h1, h2 => by
    have ih := tot_mrow a b L r s (by simpa using h1) (by simpa using h2)
    have e : ∀ (m k : Int) (M K : List Int), tot ((m :: M).zip (k :: K)) = m * k + tot (M.zip K) := by intro m k M K; simp [tot, sumZ]
    show tot ((n :: L).zip (mx2 a b v w :: mrow a b r s)) = _
    rw [e, e, e, ih, mx2]
    simp only [Int.mul_add, Int.add_mul]
    rw [Int.mul_assoc, Int.mul_assoc]
    omega
theorem mrow_len {a b : Int} {r s : List Int} (h : r.length = s.length) : (mrow a b r s).length = r.length := by
  simp [mrow, h]
theorem mrow_at {a b : Int} {r s : List Int} {i : Nat} {v w : Int} (h : r[i]? = some v) (k : s[i]? = some w) : (mrow a b r s)[i]? = some (v * b + w * a) := by
  simp [mrow, List.getElem?_zipWith, h, k, mx2]
theorem mx2_bound {a b v w : Int} (ha : 0 ≤ a ∧ a ≤ 2400) (hb : 0 ≤ b ∧ b ≤ 2400) (hv : 0 ≤ v ∧ v ≤ 20) (hw : 0 ≤ w ∧ w ≤ 20) : (0 ≤ v * b ∧ v * b ≤ 48000) ∧ (0 ≤ w * a ∧ w * a ≤ 48000) :=
  ⟨⟨Int.mul_nonneg hv.1 hb.1, Int.mul_le_mul hv.2 hb.2 hb.1 (by omega)⟩, ⟨Int.mul_nonneg hw.1 ha.1, Int.mul_le_mul hw.2 ha.2 ha.1 (by omega)⟩⟩
theorem mrow_le {a b : Int} (ha : 0 ≤ a ∧ a ≤ 2400) (hb : 0 ≤ b ∧ b ≤ 2400) : ∀ {r s : List Int}, (∀ y ∈ r, 0 ≤ y ∧ y ≤ 20) → (∀ y ∈ s, 0 ≤ y ∧ y ≤ 20) → ∀ u ∈ mrow a b r s, 0 ≤ u ∧ u ≤ 96000
  | [], _, _, _, u, h => by simp [mrow] at h
  | _ :: _, [], _, _, u, h => by simp [mrow] at h
  | v :: r, w :: s, hr, hs, u, h => by
    have hm := mx2_bound ha hb (hr v (by simp)) (hs w (by simp))
    have h : u ∈ (mx2 a b v w) :: mrow a b r s := h
    rcases List.mem_cons.1 h with rfl | h
    · unfold mx2; omega
    · exact mrow_le ha hb (fun y hy => hr y (by simp [hy])) (fun y hy => hs y (by simp [hy])) u h
/-- Where both have the same part. -/
theorem even_at {L : List Int} {V : List (List Int)} (h : KG L V) {r s : List Int} (hr : r ∈ V) (hs : s ∈ V) :
    ∃ z, rch 0 0 (units (L.zip (mrow (tot (L.zip r)) (tot (L.zip s)) r s))) ((tot (L.zip r) * tot (L.zip s) : Int) : Rat) = some z ∧ rz 0 0 (L.zip (mrow (tot (L.zip r)) (tot (L.zip s)) r s)) ((tot (L.zip r) * tot (L.zip s) : Int) : Rat) = some z ∧
      0 ≤ z ∧ z ≤ ((L.sum : Int) : Rat) ∧ (z.den : Int) ≤ 96000 ∧ upTo 0 (L.zip r) z * ((tot (L.zip s) : Int) : Rat) + upTo 0 (L.zip s) z * ((tot (L.zip r) : Int) : Rat) = ((tot (L.zip r) * tot (L.zip s) : Int) : Rat) := by
  have g0 := h.gd hr
  have g1 := h.gd hs
  have t0 := tot_bound g0
  have t1 := tot_bound g1
  have p0 := h.tot_pos hr
  have p1 := h.tot_pos hs
  have l0 := h.rl r hr
  have l1 := h.rl s hs
  have hpos : 0 < tot (L.zip r) * tot (L.zip s) := Int.mul_pos (by omega) (by omega)
  have hF : ∀ z ∈ L.zip (mrow (tot (L.zip r)) (tot (L.zip s)) r s), 1 ≤ z.1 ∧ 0 ≤ z.2 := fun z hz =>
    ⟨(h.ls _ (List.of_mem_zip hz).1).1, (mrow_le t0 t1 (h.rv r hr) (h.rv s hs) _ (List.of_mem_zip hz).2).1⟩
  have hU : ∀ u ∈ units (L.zip (mrow (tot (L.zip r)) (tot (L.zip s)) r s)), 0 ≤ u ∧ u ≤ 96000 := by
    intro u hu
    obtain ⟨w, hw, hu⟩ := List.mem_flatMap.1 hu
    rw [(List.mem_replicate.1 hu).2]
    exact mrow_le t0 t1 (h.rv r hr) (h.rv s hs) _ (List.of_mem_zip hw).2
  have hx : ((0 : Int) : Rat) < ((tot (L.zip r) * tot (L.zip s) : Int) : Rat) := Rat.intCast_lt_intCast.2 hpos
  -- the units' sum is all of both
  have hsum : (units (L.zip (mrow (tot (L.zip r)) (tot (L.zip s)) r s))).sum = tot (L.zip (mrow (tot (L.zip r)) (tot (L.zip s)) r s)) := by
    have : ∀ f : List (Int × Int), (∀ z ∈ f, 1 ≤ z.1 ∧ 0 ≤ z.2) → (units f).sum = tot f := by
      intro f
      induction f with
      | nil => intro _; rfl
      | cons z f ih =>
        intro hf
        have e : ((z.1.toNat : Nat) : Int) = z.1 := Int.toNat_of_nonneg (by have := hf z (by simp); omega)
        have e2 : units (z :: f) = List.replicate z.1.toNat z.2 ++ units f := rfl
        have e3 : tot (z :: f) = z.1 * z.2 + tot f := by simp [tot, sumZ]
        have e4 : ∀ (n : Nat) (v : Int), (List.replicate n v).sum = n * v := by
          intro n v
          induction n with
          | zero => simp
          | succ n ihn => rw [List.replicate_succ, List.sum_cons, ihn, Int.natCast_add, Int.add_mul]; omega
        rw [e2, List.sum_append, ih (fun y hy => hf y (by simp [hy])), e4, e, e3]
    exact this _ hF
  have hlen : ((units (L.zip (mrow (tot (L.zip r)) (tot (L.zip s)) r s))).length : Int) = L.sum := by
    rw [units_mrow _ _ _ _ _ l0 l1, List.length_zipWith]
    have a0 := len_units g0.2
    have a1 := len_units g1.2
    rw [h.lenz hr] at a0
    rw [h.lenz hs] at a1
    omega
  obtain ⟨z, hz⟩ := rch_ex ((tot (L.zip r) * tot (L.zip s) : Int) : Rat) (units (L.zip (mrow (tot (L.zip r)) (tot (L.zip s)) r s))) 0 0 hx (by
    rw [Int.zero_add, hsum, tot_mrow _ _ _ _ _ l0 l1]
    refine Rat.intCast_le_intCast.2 ?_
    have : tot (L.zip s) * tot (L.zip r) = tot (L.zip r) * tot (L.zip s) := Int.mul_comm _ _
    omega)
  obtain ⟨⟨v, hv, b', a', hy⟩, ⟨h1, h2⟩, h3⟩ := rch_someB _ _ 0 0 z hU hx hz
  refine ⟨z, hz, by rw [← rch_unitsG _ _ 0 0 hF hx]; exact hz, h1, by rw [Int.zero_add, hlen] at h2; exact h2, ?_, ?_⟩
  · have hd : Dv v z := by
      rw [hy]
      refine (Dv_int _ _).add ?_
      have := Dv.div ((Dv_int 1 (tot (L.zip r) * tot (L.zip s))).sub (Dv_int 1 a')) v (by omega)
      rw [Int.one_mul] at this
      exact this
    have := Dv_den (by omega) hd
    omega
  · have hu := upToU_units_gen z (L.zip (mrow (tot (L.zip r)) (tot (L.zip s)) r s)) 0 (fun z hz => (hF z hz).1)
    rw [hu, upTo_mrow _ _ _ _ _ _ _ l0 l1] at h3
    rw [h3, int0]
    grind
end Go.Proofs.Ytmblehbjedpjoaa

namespace Go.Proofs.Ytmblehbjedpjoaa
open Go Go.Eng
theorem ev_eq (T0 T1 v w n a b : Int) : (T0 + n * v) * b - (b - T1 - n * w) * a = (T0 * b + T1 * a + n * (v * b + w * a)) - a * b := by grind
section
variable {L : List Int} {ws : List (AV × List Int)} {x y : AV} {A : AHeap}
set_option maxRecDepth 20000 in
set_option maxHeartbeats 2000000 in
theorem s28 (hL : L1 A x L) (hV : LL A y ws) (hs : Sz L ws) : (twE L (lists ws) ≠ 0 → ACalls Try.prog 28 [.agg [x, y]] A (.tuple [.nilS, I (twE L (lists ws))]) A) ∧
    ∀ (w0 w1 : AV × List Int) (z : Rat), ws = [w0, w1] → KG L (lists ws) → twE L (lists ws) = 0 → rz 0 0 (L.zip (mrow (tot (L.zip w0.2)) (tot (L.zip w1.2)) w0.2 w1.2)) ((tot (L.zip w0.2) * tot (L.zip w1.2) : Int) : Rat) = some z →
      ACalls Try.prog 28 [.agg [x, y]] A (.tuple [.sl 5 A.length 0 2 true, I 0]) (A ++ [.cells true (cells2 L 0 z)]) := by
  constructor
  · intro h0
    refine acalls hmix Try.func28 (by kernel_rfl) t28 1 rfl (by decide) ?_
    dsimp only [m28]
    simp (maxSteps := 4000000) -implicitDefEqProofs -dsimp (disch := omega) only [↓AW_ops, ↓AW_seq, ↓AOps_nil, ↓AOps_pu, ↓AOps_call, on_some, ↓then_normal, pval, rd_S, rd_C, put_S, chkd, bgot, AV.cells?, partA, eq_self, List.replicate_succ, List.replicate_zero, List.set_cons_zero, List.set_cons_succ, List.getElem?_cons_zero, List.getElem?_cons_succ, List.drop_zero, List.take_succ_cons, List.take_nil, Option.getD_some, map_c, map_n, List.length_cons, List.length_nil, Nat.reduceAdd, Nat.reduceSub, Nat.reduceLeDiff, Nat.reduceEqDiff, Nat.zero_add, List.cons_append, List.nil_append, if_true, if_false]
    refine CallK.of (s73 hL hV hs) ?_
    simp (maxSteps := 4000000) -implicitDefEqProofs -dsimp (disch := omega) only [↓AW_ops, ↓AW_seq, ↓AW_cond, ↓AW_ret, ↓AOps_nil, ↓AOps_pu, on_some, extK_same, condB_t, ↓then_normal, ↓then_ret, ↓Fin_ret, pval, rd_S, rd_C, put_S, resV, resL, List.replicate_succ, List.replicate_zero, List.set_cons_zero, List.set_cons_succ, List.getElem?_cons_zero, List.getElem?_cons_succ, Option.getD_some, Nat.reduceSub, List.cons_append, List.nil_append, bin_neq, decide_true, not_false_eq_true, h0]
    exact gc_same rfl
  · intro w0 w1 z hws hg h0 hzr
    have hk0 : ws[0]? = some w0 := by rw [hws]; rfl
    have hk1 : ws[1]? = some w1 := by rw [hws]; rfl
    have hl0 : 0 < ws.length := by rw [hws]; simp
    have hl1 : 1 < ws.length := by rw [hws]; simp
    have q0 := List.mem_of_getElem? hk0
    have q1 := List.mem_of_getElem? hk1
    have m0 := mem_lists q0
    have m1 := mem_lists q1
    have x0 := hV.inn w0 q0
    have x1 := hV.inn w1 q1
    have g0 := hg.gd m0
    have g1 := hg.gd m1
    have r0 := hg.rl _ m0
    have r1 := hg.rl _ m1
    have t0 := tot_bound g0
    have t1 := tot_bound g1
    have b0 := hg.tot_pos m0
    have b1 := hg.tot_pos m1
    have h6 := hg.l6
    have hLs := hg.sum
    have hFl : (L.zip (mrow (tot (L.zip w0.2)) (tot (L.zip w1.2)) w0.2 w1.2)).length = L.length := by rw [List.length_zip, mrow_len (by omega)]; omega
    have hab : 0 < tot (L.zip w0.2) * tot (L.zip w1.2) ∧ tot (L.zip w0.2) * tot (L.zip w1.2) ≤ 5760000 := ⟨Int.mul_pos (by omega) (by omega), Int.mul_le_mul t0.2 t1.2 t1.1 (by omega)⟩
    refine acalls hmix Try.func28 (by kernel_rfl) t28 1 rfl (by decide) ?_
    dsimp only [m28]
    simp (maxSteps := 4000000) -implicitDefEqProofs -dsimp (disch := omega) only [↓AW_ops, ↓AW_seq, ↓AOps_nil, ↓AOps_pu, ↓AOps_call, on_some, ↓then_normal, pval, rd_S, rd_C, put_S, chkd, bgot, AV.cells?, partA, eq_self, List.replicate_succ, List.replicate_zero, List.set_cons_zero, List.set_cons_succ, List.getElem?_cons_zero, List.getElem?_cons_succ, List.drop_zero, List.take_succ_cons, List.take_nil, Option.getD_some, map_c, map_n, List.length_cons, List.length_nil, Nat.reduceAdd, Nat.reduceSub, Nat.reduceLeDiff, Nat.reduceEqDiff, Nat.zero_add, List.cons_append, List.nil_append, if_true, if_false]
    refine CallK.of (s73 hL hV hs) ?_
    have hw0 := c_whole hL hV hg hk0
    have hw1 := c_whole hL hV hg hk1
    rw [show ((0 : Nat) : Int) = 0 from rfl] at hw0
    rw [show ((1 : Nat) : Int) = 1 from rfl] at hw1
    simp (maxSteps := 4000000) -implicitDefEqProofs -dsimp (disch := omega) only [↓AW_skip, ↓AW_ops, ↓AW_seq, ↓AW_cond, ↓AOps_nil, ↓AOps_pu, ↓AOps_call, on_some, extK_same, condB_f, ↓then_normal, pval, rd_S, rd_C, put_S, chkd, bgot, partA, eq_self, List.replicate_succ, List.replicate_zero, List.set_cons_zero, List.set_cons_succ, List.getElem?_cons_zero, List.getElem?_cons_succ, List.drop_zero, List.take_succ_cons, List.take_nil, Option.getD_some, map_c, map_n, List.length_cons, List.length_nil, Nat.reduceAdd, Nat.reduceSub, Nat.reduceLeDiff, Nat.reduceEqDiff, Nat.zero_add, List.cons_append, List.nil_append, bin_neq, if_true, if_false, decide_false, not_true_eq_false, h0]
    refine CallK.of hw0 ?_
    simp (maxSteps := 4000000) -implicitDefEqProofs -dsimp (disch := omega) only [↓AOps_pu, ↓AOps_call, on_some, extK_same, pval, rd_S, rd_C, put_S, chkd, bgot, partA, eq_self, List.replicate_succ, List.replicate_zero, List.set_cons_zero, List.set_cons_succ, List.getElem?_cons_zero, List.getElem?_cons_succ, List.drop_zero, List.take_succ_cons, List.take_nil, Option.getD_some, map_c, map_n, List.length_cons, List.length_nil, Nat.reduceAdd, Nat.reduceSub, Nat.reduceLeDiff, Nat.reduceEqDiff, Nat.zero_add, List.cons_append, List.nil_append, if_true, if_false]
    refine CallK.of hw1 ?_
    have i0 := hV.ls.idx (k := .i64) hl0
    have i1 := hV.ls.idx (k := .i64) hl1
    rw [show ((0 : Nat) : Int) = 0 from rfl] at i0
    rw [show ((1 : Nat) : Int) = 1 from rfl] at i1
    have d0 := hV.ls.ld0 hk0 1 false (by decide)
    have d1 := hV.ls.ld0 hk1 1 false (by decide)
    rw [Nat.zero_mul, Nat.add_zero] at i0 d0
    rw [Nat.one_mul] at i1 d1
    have hd0 : ∀ i, tot ((L.zip w0.2).take i) ≤ 2400 ∧ 0 ≤ tot ((L.zip w0.2).take i) := fun i => ⟨(tot_bound (good_take g0 i)).2, (tot_bound (good_take g0 i)).1⟩
    have hd1 : ∀ i, tot ((L.zip w1.2).take i) ≤ 2400 ∧ 0 ≤ tot ((L.zip w1.2).take i) := fun i => ⟨(tot_bound (good_take g1 i)).2, (tot_bound (good_take g1 i)).1⟩
    have hF0 : L.zip w0.2 = L.zip w0.2 := rfl
    generalize ha : tot (L.zip w0.2) = a at *
    generalize hb : tot (L.zip w1.2) = b at *
    generalize hF : L.zip (mrow a b w0.2 w1.2) = F at *
    simp (maxSteps := 4000000) -implicitDefEqProofs -dsimp (disch := omega) only [↓AW_ops, ↓AW_seq, ↓AW_block, ↓AOps_nil, ↓AOps_pu, on_some, extK_same, ↓then_normal, pval, rd_S, rd_C, put_S, ↓AW_toLoop, chkd, isAdr, bgot, AV.cells?, partA, eq_self, List.replicate_succ, List.replicate_zero, List.set_cons_zero, List.set_cons_succ, List.getElem?_cons_zero, List.getElem?_cons_succ, List.drop_zero, List.take_zero, List.take_succ_cons, Option.getD_some, List.length_cons, List.length_nil, Nat.reduceAdd, Nat.reduceSub, Nat.reduceLeDiff, Nat.zero_add, List.cons_append, List.nil_append, if_true, if_false, Bool.false_eq_true, hL.len]
    refine LoopK.by 102 (fun i : Nat => i ≤ L.length ∧ tot (F.take i) = tot ((L.zip w0.2).take i) * b + tot ((L.zip w1.2).take i) * a ∧ tot (F.take i) < a * b ∧ rz 0 0 F ((a * b : Int) : Rat) = rz ((L.take i).sum) (tot (F.take i)) (F.drop i) ((a * b : Int) : Rat))
      (fun i => [(1, .agg [x, y]), (5, I a), (6, I b), (7, I (tot ((L.zip w0.2).take i))), (8, I (b - tot ((L.zip w1.2).take i))), (9, I (L.take i).sum), (26, x), (27, I L.length), (28, I i)]) (fun _ => A) (fun i => L.length - i) 0 ⟨by omega, by simp [tot, sumZ], by simpa [tot, sumZ] using hab.1, by simp [tot, sumZ]⟩ rfl (by simp [Has, rd_s, tot, sumZ]) rfl ?_
    rintro i ⟨hi, hC, hlt0, hrz⟩
    by_cases hlt : i < L.length
    · obtain ⟨n, hz⟩ : ∃ z, L[i]? = some z := ⟨_, List.getElem?_eq_getElem hlt⟩
      have hlt' : (i : Int) < L.length := by omega
      have lw0 : i < w0.2.length := by omega
      have lw1 : i < w1.2.length := by omega
      obtain ⟨v, hv⟩ : ∃ v, w0.2[i]? = some v := ⟨_, List.getElem?_eq_getElem lw0⟩
      obtain ⟨w, hw⟩ : ∃ w, w1.2[i]? = some w := ⟨_, List.getElem?_eq_getElem lw1⟩
      have hn := hg.ls n (List.mem_of_getElem? hz)
      have hvv := hg.rv _ m0 v (List.mem_of_getElem? hv)
      have hwv := hg.rv _ m1 w (List.mem_of_getElem? hw)
      have hmx := mx2_bound t0 t1 hvv hwv
      have ht0 := tot_take (zip_at hz hv)
      have ht1 := tot_take (zip_at hz hw)
      have hFi : F[i]? = some (n, v * b + w * a) := by rw [← hF]; exact zip_at hz (mrow_at hv hw)
      have htF := tot_take hFi
      simp only at ht0 ht1 htF
      have hdr : F.drop i = (n, v * b + w * a) :: F.drop (i + 1) := by
        have := (List.getElem?_eq_some_iff.1 hFi).2
        rw [← this]; exact List.drop_eq_getElem_cons (by omega)
      rw [hdr, rz] at hrz
      simp only at hrz
      obtain ⟨c1, c2⟩ := hd0 i
      obtain ⟨c3, c4⟩ := hd1 i
      obtain ⟨c5, c6⟩ := hd0 (i + 1)
      obtain ⟨c7, c8⟩ := hd1 (i + 1)
      have hts := take_sum_succ' hz
      have htk := hg.take i
      have htk' := hg.take (i + 1)
      have nv : 0 ≤ n * v ∧ n * v ≤ 400 := ⟨Int.mul_nonneg (by omega) hvv.1, Int.mul_le_mul hn.2 hvv.2 hvv.1 (by omega)⟩
      have nw : 0 ≤ n * w ∧ n * w ≤ 400 := ⟨Int.mul_nonneg (by omega) hwv.1, Int.mul_le_mul hn.2 hwv.2 hwv.1 (by omega)⟩
      have cm1 : v * n = n * v := Int.mul_comm _ _
      have cm2 : w * n = n * w := Int.mul_comm _ _
      have e1' := ev_eq (tot ((L.zip w0.2).take i)) (tot ((L.zip w1.2).take i)) v w n a b
      have p1 : -(6000 * 2400) ≤ (tot ((L.zip w0.2).take i) + n * v) * b ∧ (tot ((L.zip w0.2).take i) + n * v) * b ≤ 6000 * 2400 := mul_bound (x := tot ((L.zip w0.2).take i) + n * v) (y := b) (X := 6000) (Y := 2400) (by omega) (by omega)
      have p2 : -(6000 * 2400) ≤ (b - tot ((L.zip w1.2).take i) - n * w) * a ∧ (b - tot ((L.zip w1.2).take i) - n * w) * a ≤ 6000 * 2400 := mul_bound (x := b - tot ((L.zip w1.2).take i) - n * w) (y := a) (X := 6000) (Y := 2400) (by omega) (by omega)
      have p3 : -(6000 * 2400) ≤ (b - tot ((L.zip w1.2).take i)) * a ∧ (b - tot ((L.zip w1.2).take i)) * a ≤ 6000 * 2400 := mul_bound (x := b - tot ((L.zip w1.2).take i)) (y := a) (X := 6000) (Y := 2400) (by omega) (by omega)
      have p4 : -(6000 * 2400) ≤ tot ((L.zip w0.2).take i) * b ∧ tot ((L.zip w0.2).take i) * b ≤ 6000 * 2400 := mul_bound (x := tot ((L.zip w0.2).take i)) (y := b) (X := 6000) (Y := 2400) (by omega) (by omega)
      have e3 : (b - tot ((L.zip w1.2).take i)) * a - tot ((L.zip w0.2).take i) * b = a * b - tot (F.take i) := by rw [hC]; grind
      by_cases hhit : a * b ≤ tot (F.take i) + n * (v * b + w * a)
      · have hcond : (b - tot ((L.zip w1.2).take i) - n * w) * a ≤ (tot ((L.zip w0.2).take i) + n * v) * b := by omega
        rw [if_pos (Rat.intCast_le_intCast.2 hhit)] at hrz
        have hmp : 0 < v * b + w * a := by
          rcases Int.lt_or_le 0 (v * b + w * a) with h | h
          · exact h
          · have : v * b + w * a = 0 := by omega
            rw [this, Int.mul_zero] at hhit
            omega
        have hrl := ratio_le (a * b - tot (F.take i)) (v * b + w * a) hmp
        have hC0 : 0 ≤ tot (F.take i) := by
          have e5 : 0 ≤ tot ((L.zip w1.2).take i) * a := Int.mul_nonneg c4 (by omega)
          have e6 : 0 ≤ tot ((L.zip w0.2).take i) * b := Int.mul_nonneg c2 (by omega)
          omega
        simp (maxSteps := 4000000) -implicitDefEqProofs -dsimp (disch := omega) only [↓AW_skip, ↓AW_ops, ↓AW_seq, ↓AW_cond, ↓AW_block, ↓AOps_nil, ↓AOps_pu, ↓AOps_ld, ↓AOps_call, on_some, condB_t, ↓then_normal, pval, lval, rd_S, rd_C, put_S, chkd, isAdr, bgot, AV.cells?, partA, eq_self, mk, List.foldl_cons, List.foldl_nil, List.replicate_succ, List.replicate_zero, List.set_cons_zero, List.set_cons_succ, List.getElem?_cons_zero, List.getElem?_cons_succ, List.drop_zero, List.drop_succ_cons, List.take_succ_cons, List.take_nil, Option.getD_some, map_c, map_n, List.length_cons, List.length_nil, Nat.reduceAdd, Nat.reduceLeDiff, Nat.zero_add, bin_add, bin_sub, bin_mul, bin_lss, bin_geq, w64, if_true, if_false, Bool.false_eq_true, decide_true, Go.Eng.e1, hlt', hL.idx hlt, hL.ld0 hz 1 false (by decide), i0, d0, i1, d1, e0, x0.idx lw0, x0.ld0 hv 1 false (by decide), x1.idx lw1, x1.ld0 hw 1 false (by decide), cm1, cm2, hcond, e3]
        refine CallK.of (s59R _ ⟨by omega, by omega⟩ hmp (by omega)) ?_
        have hzz : z = (((L.take i).sum : Int) : Rat) + ((a * b - tot (F.take i) : Int) : Rat) / ((v * b + w * a : Int) : Rat) := by
          rw [hrz] at hzr
          have := Option.some.inj hzr
          rw [← this, Rat.intCast_sub]
        generalize ((a * b - tot (F.take i) : Int) : Rat) / ((v * b + w * a : Int) : Rat) = lk at *
        simp (maxSteps := 4000000) -implicitDefEqProofs -dsimp (disch := omega) only [↓AW_ops, ↓AW_seq, ↓AOps_nil, ↓AOps_pu, ↓AOps_call, on_some, extK_same, ↓then_normal, pval, rd_S, rd_C, put_S, chkd, bput, bgot, AV.cells?, splice, partA, eq_self, mk, List.foldl_cons, List.foldl_nil, List.replicate_succ, List.replicate_zero, List.set_cons_zero, List.set_cons_succ, List.getElem?_cons_zero, List.getElem?_cons_succ, List.drop_zero, List.drop_succ_cons, List.drop_nil, List.take_zero, List.take_succ_cons, List.take_nil, Option.getD_some, map_c, map_n, List.length_cons, List.length_nil, Nat.reduceAdd, Nat.reduceLeDiff, Nat.reduceEqDiff, Nat.zero_add, List.nil_append, List.append_nil, if_true, if_false, ne_eq, not_true_eq_false, R]
        refine CallK.of (s76 _ _) ?_
        simp (maxSteps := 4000000) -implicitDefEqProofs -dsimp (disch := omega) only [↓AOps_pu, ↓AOps_call, on_some, extK_same, pval, rd_S, put_S, chkd, bgot, partA, eq_self, mk, List.foldl_cons, List.foldl_nil, List.replicate_succ, List.replicate_zero, List.set_cons_zero, List.set_cons_succ, List.getElem?_cons_zero, List.getElem?_cons_succ, List.drop_zero, List.take_succ_cons, List.take_nil, Option.getD_some, map_c, map_n, List.length_cons, List.length_nil, Nat.reduceAdd, Nat.reduceLeDiff, Nat.reduceEqDiff, Nat.zero_add, if_true, if_false]
        have hRl : AV.agg [I lk.num, I (lk.den : Int)] = R lk := rfl
        rw [hRl]
        refine CallK.of (s75 _ _ _ (Sm_int (by omega)) ⟨by omega, by omega⟩) ?_
        rw [← hzz]
        simp (maxSteps := 4000000) -implicitDefEqProofs -dsimp (disch := omega) only [↓AOps_call, extK_same, rd_S, rd_C, put_S, mk, List.foldl_cons, List.foldl_nil, List.replicate_succ, List.replicate_zero, List.set_cons_zero, List.set_cons_succ, List.getElem?_cons_zero, List.getElem?_cons_succ, Option.getD_some, map_c, map_n]
        refine CallK.of (c_halves hL hg 0 (.inl rfl) z) ?_
        simp (maxSteps := 4000000) -implicitDefEqProofs -dsimp (disch := omega) only [↓AW_ret, ↓AOps_nil, ↓AOps_pu, on_some, extK_app, ↓then_normal, ↓then_ret, ↓inBlock_ret, ↓Fin_ret, pval, rd_S, rd_C, put_S, resV, resL, mk, List.foldl_cons, List.foldl_nil, List.replicate_succ, List.replicate_zero, List.set_cons_zero, List.set_cons_succ, List.getElem?_cons_zero, List.getElem?_cons_succ, Option.getD_some]
        exact gc_all
      · have hcond : ¬ (b - tot ((L.zip w1.2).take i) - n * w) * a ≤ (tot ((L.zip w0.2).take i) + n * v) * b := by omega
        rw [if_neg (fun hh => hhit (Rat.intCast_le_intCast.1 hh))] at hrz
        have hCn : tot (F.take (i + 1)) = tot ((L.zip w0.2).take (i + 1)) * b + tot ((L.zip w1.2).take (i + 1)) * a := by rw [htF, ht0, ht1, hC]; grind
        have e4 : b - tot ((L.zip w1.2).take i) - n * w = b - tot ((L.zip w1.2).take (i + 1)) := by omega
        simp (maxSteps := 4000000) -implicitDefEqProofs -dsimp (disch := omega) only [↓AW_skip, ↓AW_ops, ↓AW_seq, ↓AW_cond, ↓AW_block, ↓AOps_nil, ↓AOps_pu, ↓AOps_ld, on_some, condB_t, condB_f, ↓then_normal, ↓inBlock_normal, pval, lval, rd_S, rd_C, put_S, chkd, isAdr, bgot, AV.cells?, partA, eq_self, mk, List.foldl_cons, List.foldl_nil, List.replicate_succ, List.replicate_zero, List.set_cons_zero, List.set_cons_succ, List.getElem?_cons_zero, List.getElem?_cons_succ, List.drop_zero, List.drop_succ_cons, List.take_succ_cons, List.take_nil, Option.getD_some, List.length_cons, List.length_nil, Nat.reduceAdd, Nat.reduceLeDiff, Nat.zero_add, bin_add, bin_sub, bin_mul, bin_lss, bin_geq, w64, if_true, if_false, Bool.false_eq_true, decide_true, decide_false, Go.Eng.e1, true_and, hlt', hL.idx hlt, hL.ld0 hz 1 false (by decide), i0, d0, i1, d1, e0, x0.idx lw0, x0.ld0 hv 1 false (by decide), x1.idx lw1, x1.ld0 hw 1 false (by decide), cm1, cm2, hcond]
        exact ⟨i + 1, ⟨hlt, hCn, by omega, by rw [hrz, hts, htF]⟩, by simp [Has, rd_s, hts, ht0, e4], by omega⟩
    · exfalso
      rw [List.drop_of_length_le (by omega)] at hrz
      rw [hrz] at hzr
      cases hzr
theorem sumBB {l : List Int} (h : ∀ y ∈ l, 0 ≤ y ∧ y ≤ 96000) : 0 ≤ l.sum ∧ l.sum ≤ 96000 * l.length := by
  induction l with
  | nil => simp
  | cons a l ih =>
    have h1 := ih (fun y hy => h y (by simp [hy]))
    have h2 := h a (by simp)
    simp only [List.sum_cons, List.length_cons]
    omega
set_option maxRecDepth 20000 in
set_option maxHeartbeats 2000000 in
theorem s29 (hL : L1 A x L) (hV : LL A y ws) (hs : Sz L ws) : (twE L (lists ws) ≠ 0 → ACalls Try.prog 29 [.agg [x, y]] A (.tuple [.nilS, I (twE L (lists ws))]) A) ∧
    ∀ (w0 w1 : AV × List Int) (z : Rat), ws = [w0, w1] → KG L (lists ws) → twE L (lists ws) = 0 → rch 0 0 (units (L.zip (mrow (tot (L.zip w0.2)) (tot (L.zip w1.2)) w0.2 w1.2))) ((tot (L.zip w0.2) * tot (L.zip w1.2) : Int) : Rat) = some z →
      ACalls Try.prog 29 [.agg [x, y]] A (.tuple [outV 5 A (pcs2 L 0 z).length, I 0]) (outH A ((pcs2 L 0 z).flatMap e5) (pcs2 L 0 z).length) := by
  constructor
  · intro h0
    refine acalls hmix Try.func29 (by kernel_rfl) t29 1 rfl (by decide) ?_
    dsimp only [m29]
    simp (maxSteps := 4000000) -implicitDefEqProofs -dsimp (disch := omega) only [↓AW_ops, ↓AW_seq, ↓AOps_nil, ↓AOps_pu, ↓AOps_call, on_some, ↓then_normal, pval, rd_S, rd_C, put_S, chkd, bgot, AV.cells?, partA, eq_self, List.replicate_succ, List.replicate_zero, List.set_cons_zero, List.set_cons_succ, List.getElem?_cons_zero, List.getElem?_cons_succ, List.drop_zero, List.take_succ_cons, List.take_nil, Option.getD_some, map_c, map_n, List.length_cons, List.length_nil, Nat.reduceAdd, Nat.reduceSub, Nat.reduceLeDiff, Nat.reduceEqDiff, Nat.zero_add, List.cons_append, List.nil_append, if_true, if_false]
    refine CallK.of (s78 hL hV hs) ?_
    simp (maxSteps := 4000000) -implicitDefEqProofs -dsimp (disch := omega) only [↓AW_ops, ↓AW_seq, ↓AW_cond, ↓AW_ret, ↓AOps_nil, ↓AOps_pu, on_some, extK_same, condB_t, ↓then_normal, ↓then_ret, ↓Fin_ret, pval, rd_S, rd_C, put_S, resV, resL, List.replicate_succ, List.replicate_zero, List.set_cons_zero, List.set_cons_succ, List.getElem?_cons_zero, List.getElem?_cons_succ, Option.getD_some, Nat.reduceSub, List.cons_append, List.nil_append, bin_neq, decide_true, not_false_eq_true, h0]
    exact gc_same rfl
  · intro w0 w1 z hws hg h0 hzr
    have hk0 : ws[0]? = some w0 := by rw [hws]; rfl
    have hk1 : ws[1]? = some w1 := by rw [hws]; rfl
    have m0 := mem_lists (List.mem_of_getElem? hk0)
    have m1 := mem_lists (List.mem_of_getElem? hk1)
    have g0 := hg.gd m0
    have g1 := hg.gd m1
    have r0 := hg.rl _ m0
    have r1 := hg.rl _ m1
    have t0 := tot_bound g0
    have t1 := tot_bound g1
    have b0 := hg.tot_pos m0
    have b1 := hg.tot_pos m1
    have hLs := hg.sum
    have n0 := len_units g0.2
    have n1 := len_units g1.2
    rw [hg.lenz m0] at n0
    rw [hg.lenz m1] at n1
    have u0 := units_le g0.2
    have u1 := units_le g1.2
    rw [units_mrow _ _ _ _ _ r0 r1] at hzr
    have hab : 0 < tot (L.zip w0.2) * tot (L.zip w1.2) ∧ tot (L.zip w0.2) * tot (L.zip w1.2) ≤ 5760000 := ⟨Int.mul_pos (by omega) (by omega), Int.mul_le_mul t0.2 t1.2 t1.1 (by omega)⟩
    refine acalls hmix Try.func29 (by kernel_rfl) t29 1 rfl (by decide) ?_
    dsimp only [m29]
    simp (maxSteps := 4000000) -implicitDefEqProofs -dsimp (disch := omega) only [↓AW_ops, ↓AW_seq, ↓AOps_nil, ↓AOps_pu, ↓AOps_call, on_some, ↓then_normal, pval, rd_S, rd_C, put_S, chkd, bgot, AV.cells?, partA, eq_self, List.replicate_succ, List.replicate_zero, List.set_cons_zero, List.set_cons_succ, List.getElem?_cons_zero, List.getElem?_cons_succ, List.drop_zero, List.take_succ_cons, List.take_nil, Option.getD_some, map_c, map_n, List.length_cons, List.length_nil, Nat.reduceAdd, Nat.reduceSub, Nat.reduceLeDiff, Nat.reduceEqDiff, Nat.zero_add, List.cons_append, List.nil_append, if_true, if_false]
    refine CallK.of (s78 hL hV hs) ?_
    have c0 := c_units hL hV hg hk0
    rw [show ((0 : Nat) : Int) = 0 from rfl] at c0
    simp (maxSteps := 4000000) -implicitDefEqProofs -dsimp (disch := omega) only [↓AW_skip, ↓AW_ops, ↓AW_seq, ↓AW_cond, ↓AOps_nil, ↓AOps_pu, ↓AOps_call, on_some, extK_same, condB_f, ↓then_normal, pval, rd_S, rd_C, put_S, chkd, bgot, partA, eq_self, List.replicate_succ, List.replicate_zero, List.set_cons_zero, List.set_cons_succ, List.getElem?_cons_zero, List.getElem?_cons_succ, List.drop_zero, List.take_succ_cons, List.take_nil, Option.getD_some, map_c, map_n, List.length_cons, List.length_nil, Nat.reduceAdd, Nat.reduceSub, Nat.reduceLeDiff, Nat.reduceEqDiff, Nat.zero_add, List.cons_append, List.nil_append, bin_neq, if_true, if_false, decide_false, not_true_eq_false, h0]
    refine CallK.of c0 ?_
    have ls0 := units_ls A (L.zip w0.2)
    have hp1 := pre_out A ((units (L.zip w0.2)).flatMap e1) (units (L.zip w0.2)).length
    generalize outV 1 A (units (L.zip w0.2)).length = v0 at *
    generalize outH A ((units (L.zip w0.2)).flatMap e1) (units (L.zip w0.2)).length = A1 at *
    have c1 := c_units (hL.mono hp1) (hV.mono hp1) hg hk1
    rw [show ((1 : Nat) : Int) = 1 from rfl] at c1
    simp (maxSteps := 4000000) -implicitDefEqProofs -dsimp (disch := omega) only [↓AOps_pu, ↓AOps_call, on_some, extK_false, pval, rd_S, rd_C, put_S, chkd, bgot, partA, eq_self, List.replicate_succ, List.replicate_zero, List.set_cons_zero, List.set_cons_succ, List.getElem?_cons_zero, List.getElem?_cons_succ, List.drop_zero, List.take_succ_cons, List.take_nil, Option.getD_some, map_c, map_n, List.length_cons, List.length_nil, Nat.reduceAdd, Nat.reduceSub, Nat.reduceLeDiff, Nat.reduceEqDiff, Nat.zero_add, List.cons_append, List.nil_append, if_true, if_false]
    refine CallK.of c1 ?_
    have ls1 := units_ls A1 (L.zip w1.2)
    have hp2 := pre_out A1 ((units (L.zip w1.2)).flatMap e1) (units (L.zip w1.2)).length
    generalize outV 1 A1 (units (L.zip w1.2)).length = v1 at *
    generalize outH A1 ((units (L.zip w1.2)).flatMap e1) (units (L.zip w1.2)).length = A2 at *
    have ls0 := ls0.mono hp2
    have hp := hp1.trans hp2
    have a0 := c_all (hL.mono hp) (hV.mono hp) hg hk0
    have a1 := c_all (hL.mono hp) (hV.mono hp) hg hk1
    rw [show ((0 : Nat) : Int) = 0 from rfl] at a0
    rw [show ((1 : Nat) : Int) = 1 from rfl] at a1
    simp (maxSteps := 4000000) -implicitDefEqProofs -dsimp (disch := omega) only [↓AW_ops, ↓AW_seq, ↓AOps_nil, ↓AOps_pu, ↓AOps_call, on_some, extK_false, ↓then_normal, pval, rd_S, rd_C, put_S, chkd, bgot, partA, eq_self, List.replicate_succ, List.replicate_zero, List.set_cons_zero, List.set_cons_succ, List.getElem?_cons_zero, List.getElem?_cons_succ, List.drop_zero, List.take_succ_cons, List.take_nil, Option.getD_some, map_c, map_n, List.length_cons, List.length_nil, Nat.reduceAdd, Nat.reduceSub, Nat.reduceLeDiff, Nat.reduceEqDiff, Nat.zero_add, List.cons_append, List.nil_append, if_true, if_false]
    refine CallK.of a0 ?_
    simp (maxSteps := 4000000) -implicitDefEqProofs -dsimp (disch := omega) only [↓AOps_pu, ↓AOps_call, on_some, extK_same, pval, rd_S, rd_C, put_S, chkd, bgot, partA, eq_self, List.replicate_succ, List.replicate_zero, List.set_cons_zero, List.set_cons_succ, List.getElem?_cons_zero, List.getElem?_cons_succ, List.drop_zero, List.take_succ_cons, List.take_nil, Option.getD_some, map_c, map_n, List.length_cons, List.length_nil, Nat.reduceAdd, Nat.reduceSub, Nat.reduceLeDiff, Nat.reduceEqDiff, Nat.zero_add, List.cons_append, List.nil_append, if_true, if_false]
    refine CallK.of a1 ?_
    simp (maxSteps := 4000000) -implicitDefEqProofs -dsimp (disch := omega) only [↓AW_ops, ↓AW_seq, ↓AOps_nil, ↓AOps_pu, ↓AOps_call, on_some, extK_same, ↓then_normal, pval, rd_S, rd_C, put_S, List.replicate_succ, List.replicate_zero, List.set_cons_zero, List.set_cons_succ, List.getElem?_cons_zero, List.getElem?_cons_succ, Option.getD_some, map_c, map_n, Nat.reduceSub, List.cons_append, List.nil_append]
    refine CallK.of (s36 _ _) ?_
    simp (maxSteps := 4000000) -implicitDefEqProofs -dsimp (disch := omega) only [↓AW_ops, ↓AW_seq, ↓AW_block, ↓AOps_nil, ↓AOps_pu, on_some, extK_same, ↓then_normal, pval, rd_S, rd_C, put_S, ↓AW_toLoop, chkd, bput, AV.cells?, splice, eq_self, List.replicate_succ, List.replicate_zero, List.set_cons_zero, List.set_cons_succ, List.getElem?_cons_zero, List.getElem?_cons_succ, List.drop_succ_cons, List.drop_nil, List.take_zero, Option.getD_some, List.length_cons, List.length_nil, Nat.reduceAdd, Nat.reduceSub, Nat.reduceLeDiff, Nat.zero_add, List.cons_append, List.nil_append, List.append_nil, if_true, if_false, ne_eq, not_true_eq_false]
    generalize ha : tot (L.zip w0.2) = a at *
    generalize hb : tot (L.zip w1.2) = b at *
    generalize hU0 : units (L.zip w0.2) = U0 at *
    generalize hU1 : units (L.zip w1.2) = U1 at *
    have hUl : (List.zipWith (mx2 a b) U0 U1).length = U0.length := by rw [List.length_zipWith]; omega
    have hUb : ∀ u ∈ List.zipWith (mx2 a b) U0 U1, 0 ≤ u ∧ u ≤ 96000 := mrow_le t0 t1 u0 u1
    generalize hU : List.zipWith (mx2 a b) U0 U1 = U at *
    refine LoopK.by 76 (fun s : Nat × Rat => s.1 ≤ U.length ∧ (((U.take s.1).sum < a * b ∧ s.2 = ((0 : Int) : Rat) ∧ rch 0 0 U ((a * b : Int) : Rat) = rch s.1 (U.take s.1).sum (U.drop s.1) ((a * b : Int) : Rat)) ∨ (a * b ≤ (U.take s.1).sum ∧ s.2 = z)))
      (fun s => [(1, .agg [x, y]), (5, v0), (6, v1), (7, I a), (8, I b), (9, I (U.take s.1).sum), (10, R s.2), (11, I s.1)]) (fun _ => A2) (fun s => U.length - s.1) (0, ((0 : Int) : Rat)) ⟨by omega, .inl ⟨by simpa using hab.1, rfl, by simp⟩⟩ rfl (by simp [Has, rd_s]) rfl ?_
    rintro ⟨i, at'⟩ ⟨hi, hinv⟩
    simp only at hi hinv
    have hsb := sumBB (l := U.take i) (fun u hu => hUb u (List.mem_of_mem_take hu))
    rw [List.length_take] at hsb
    by_cases hlt : i < U.length
    · have l0 : i < U0.length := by omega
      have l1 : i < U1.length := by omega
      obtain ⟨v, hv⟩ : ∃ v, U0[i]? = some v := ⟨_, List.getElem?_eq_getElem l0⟩
      obtain ⟨w, hw⟩ : ∃ w, U1[i]? = some w := ⟨_, List.getElem?_eq_getElem l1⟩
      have hvv := u0 v (List.mem_of_getElem? hv)
      have hwv := u1 w (List.mem_of_getElem? hw)
      have hmx := mx2_bound t0 t1 hvv hwv
      have hUi : U[i]? = some (v * b + w * a) := by rw [← hU]; exact mrow_at hv hw
      have hts := take_sum_succ' hUi
      have hlt0 : (i : Int) < U0.length := by omega
      have hdr : U.drop i = (v * b + w * a) :: U.drop (i + 1) := by
        have := (List.getElem?_eq_some_iff.1 hUi).2
        rw [← this]; exact List.drop_eq_getElem_cons hlt
      rcases hinv with ⟨hlt1, rfl, hrc⟩ | ⟨hge, rfl⟩
      · rw [hdr, rch] at hrc
        by_cases hhit : a * b ≤ (U.take i).sum + (v * b + w * a)
        · rw [if_pos (Rat.intCast_le_intCast.2 hhit)] at hrc
          have hmp : 0 < v * b + w * a := by omega
          have hrl := ratio_le (a * b - (U.take i).sum) (v * b + w * a) hmp
          have hzz : z = (((i : Int)) : Rat) + ((a * b - (U.take i).sum : Int) : Rat) / ((v * b + w * a : Int) : Rat) := by
            rw [hrc] at hzr
            have := Option.some.inj hzr
            rw [← this, Rat.intCast_sub]
          simp (maxSteps := 4000000) -implicitDefEqProofs -dsimp (disch := omega) only [↓AW_skip, ↓AW_ops, ↓AW_seq, ↓AW_cond, ↓AW_block, ↓AOps_nil, ↓AOps_pu, ↓AOps_ld, ↓AOps_call, ↓AOps_guard, on_some, guardB_tt, condB_t, ↓then_normal, pval, lval, rd_S, rd_C, put_S, partA, eq_self, mk, List.foldl_cons, List.foldl_nil, List.replicate_succ, List.replicate_zero, List.set_cons_zero, List.set_cons_succ, List.getElem?_cons_zero, List.getElem?_cons_succ, List.drop_zero, List.take_succ_cons, List.take_nil, Option.getD_some, map_c, map_n, List.length_cons, List.length_nil, Nat.reduceLeDiff, Nat.zero_add, bin_add, bin_mul, bin_lss, bin_geq, w64, if_true, if_false, Bool.false_eq_true, decide_true, Go.Eng.e1, hlt0, ls0.len, ls0.idx l0, ls0.ld0 hv 1 false (by decide), ls1.idx l1, ls1.ld0 hw 1 false (by decide), hlt1, hhit]
          refine CallK.of (s36 _ _) ?_
          simp (maxSteps := 4000000) -implicitDefEqProofs -dsimp (disch := omega) only [↓AOps_pu, ↓AOps_call, on_some, extK_same, pval, rd_S, put_S, mk, List.foldl_cons, List.foldl_nil, List.replicate_succ, List.replicate_zero, List.set_cons_zero, List.set_cons_succ, List.getElem?_cons_zero, List.getElem?_cons_succ, Option.getD_some, map_c, map_n, bin_sub, bin_mul, w64]
          refine CallK.of (s80R _ ⟨by omega, by omega⟩ (by omega) hmp (by omega)) ?_
          generalize ((a * b - (U.take i).sum : Int) : Rat) / ((v * b + w * a : Int) : Rat) = lk at *
          simp (maxSteps := 4000000) -implicitDefEqProofs -dsimp (disch := omega) only [↓AOps_call, extK_same, rd_S, put_S, mk, List.foldl_cons, List.foldl_nil, List.replicate_succ, List.replicate_zero, List.set_cons_zero, List.set_cons_succ, List.getElem?_cons_zero, List.getElem?_cons_succ, Option.getD_some, map_c, map_n]
          refine CallK.of (s37 _ _ _ (Sm_int (by omega)) ⟨by omega, by omega⟩) ?_
          rw [← hzz]
          simp (maxSteps := 4000000) -implicitDefEqProofs -dsimp (disch := omega) only [↓AW_ops, ↓AOps_nil, ↓AOps_pu, on_some, extK_same, ↓then_normal, ↓inBlock_normal, pval, rd_S, rd_C, put_S, chkd, bput, AV.cells?, splice, eq_self, mk, List.foldl_cons, List.foldl_nil, List.replicate_succ, List.replicate_zero, List.set_cons_zero, List.set_cons_succ, List.getElem?_cons_zero, List.getElem?_cons_succ, List.drop_succ_cons, List.drop_nil, List.take_zero, Option.getD_some, List.length_cons, List.length_nil, Nat.reduceAdd, Nat.reduceLeDiff, Nat.zero_add, List.nil_append, List.append_nil, bin_add, w64, if_true, if_false, true_and, ne_eq, not_true_eq_false]
          exact ⟨(i + 1, z), ⟨hlt, .inr ⟨by rw [hts]; exact hhit, rfl⟩⟩, by simp [Has, rd_s, hts, R], by simp only; omega⟩
        · rw [if_neg (fun hh => hhit (Rat.intCast_le_intCast.1 hh))] at hrc
          simp (maxSteps := 4000000) -implicitDefEqProofs -dsimp (disch := omega) only [↓AW_skip, ↓AW_ops, ↓AW_seq, ↓AW_cond, ↓AW_block, ↓AOps_nil, ↓AOps_pu, ↓AOps_ld, ↓AOps_guard, on_some, guardB_tt, condB_t, condB_f, ↓then_normal, ↓inBlock_normal, pval, lval, rd_S, rd_C, put_S, partA, eq_self, mk, List.foldl_cons, List.foldl_nil, List.replicate_succ, List.replicate_zero, List.set_cons_zero, List.set_cons_succ, List.getElem?_cons_zero, List.getElem?_cons_succ, List.drop_zero, List.take_succ_cons, List.take_nil, Option.getD_some, List.length_cons, List.length_nil, Nat.reduceAdd, Nat.reduceLeDiff, Nat.zero_add, bin_add, bin_mul, bin_lss, bin_geq, w64, if_true, if_false, Bool.false_eq_true, decide_true, decide_false, Go.Eng.e1, true_and, hlt0, ls0.len, ls0.idx l0, ls0.ld0 hv 1 false (by decide), ls1.idx l1, ls1.ld0 hw 1 false (by decide), hlt1, hhit]
          exact ⟨(i + 1, ((0 : Int) : Rat)), ⟨hlt, .inl ⟨by rw [hts]; omega, rfl, by rw [hrc, hts]; rfl⟩⟩, by simp [Has, rd_s, hts], by simp only; omega⟩
      · have hnl : ¬ (U.take i).sum < a * b := by omega
        simp (maxSteps := 4000000) -implicitDefEqProofs -dsimp (disch := omega) only [↓AW_skip, ↓AW_ops, ↓AW_seq, ↓AW_cond, ↓AW_block, ↓AOps_nil, ↓AOps_pu, ↓AOps_ld, ↓AOps_guard, on_some, guardB_ft, skipS_some, condB_t, condB_f, ↓then_normal, ↓inBlock_normal, pval, lval, rd_S, rd_C, put_S, partA, eq_self, mk, List.foldl_cons, List.foldl_nil, List.replicate_succ, List.replicate_zero, List.set_cons_zero, List.set_cons_succ, List.getElem?_cons_zero, List.getElem?_cons_succ, List.drop_zero, List.take_succ_cons, List.take_nil, Option.getD_some, List.length_cons, List.length_nil, Nat.reduceAdd, Nat.reduceLeDiff, Nat.zero_add, bin_add, bin_mul, bin_lss, w64, if_true, if_false, Bool.false_eq_true, decide_true, decide_false, Go.Eng.e1, true_and, hlt0, ls0.len, ls0.idx l0, ls0.ld0 hv 1 false (by decide), ls1.idx l1, ls1.ld0 hw 1 false (by decide), hnl]
        exact ⟨(i + 1, at'), ⟨hlt, .inr ⟨by rw [hts]; omega, rfl⟩⟩, by simp [Has, rd_s, hts], by simp only; omega⟩
    · have hlt' : ¬ ((i : Int) < U0.length) := by omega
      rcases hinv with ⟨_, _, hrc⟩ | ⟨_, rfl⟩
      · exfalso
        rw [List.drop_of_length_le (by omega)] at hrc
        rw [hrc] at hzr
        cases hzr
      · simp (maxSteps := 4000000) -implicitDefEqProofs -dsimp (disch := omega) only [↓AW_ops, ↓AW_seq, ↓AW_cond, ↓AW_exit, ↓AOps_nil, ↓AOps_pu, ↓AOps_call, on_some, condB_f, ↓then_normal, ↓then_exit, ↓inBlock_exit, pval, rd_S, rd_C, put_S, chkd, bgot, partA, eq_self, mk, List.foldl_cons, List.foldl_nil, List.replicate_succ, List.replicate_zero, List.set_cons_zero, List.set_cons_succ, List.getElem?_cons_zero, List.getElem?_cons_succ, List.drop_zero, List.take_succ_cons, List.take_nil, Option.getD_some, map_c, map_n, List.length_cons, List.length_nil, Nat.reduceAdd, Nat.reduceLeDiff, Nat.reduceEqDiff, Nat.zero_add, bin_lss, if_true, if_false, decide_false, hlt', ls0.len]
        refine CallK.of (c_cutAt (hL.mono hp) (hV.mono hp) hg 0 (.inl rfl) at') ?_
        simp (maxSteps := 4000000) -implicitDefEqProofs -dsimp (disch := omega) only [↓AW_ret, ↓AOps_nil, ↓AOps_pu, on_some, extK_app, ↓then_normal, ↓Fin_ret, pval, rd_S, rd_C, put_S, resV, resL, mk, List.foldl_cons, List.foldl_nil, List.replicate_succ, List.replicate_zero, List.set_cons_zero, List.set_cons_succ, List.getElem?_cons_zero, List.getElem?_cons_succ, Option.getD_some]
        exact (OL_pcs2 hp 0 at').gc2 (by simp [pcs2]) flat_e5 _ rfl
/-- The part that each owner has of his piece. -/
def prts (L : List Int) (V : List (List Int)) (P : Nat → Pc) : List Rat := (List.range V.length).map fun (o : Nat) => pwo (L.zip (rowOf V o)) (P o) / ((tot (L.zip (rowOf V o)) : Int) : Rat)
theorem c_parts (hL : L1 A x L) (hV : LL A y ws) (h : KG L (lists ws)) {pcs : List Pc} {v : AV} (hP : L5 A v pcs) (hl : pcs.length ≤ 1000000) (hc : CP L (lists ws) pcs) (P : Nat → Pc) (hown : ∀ o : Nat, o < ws.length → ∃ k, At pcs o k (P o)) :
    ACalls Try.prog 82 [.agg [x, y], v] A (outV 2 A ((prts L (lists ws) P).map rp).length) (outH A (((prts L (lists ws) P).map rp).flatMap e2) ((prts L (lists ws) P).map rp).length) := by
  refine acalls hmix Try.func82 (by kernel_rfl) t82 2 rfl (by decide) ?_
  have hv5 := h.v5
  have hll : (lists ws).length = ws.length := by simp
  rw [hll] at hv5
  dsimp only [m82]
  simp (maxSteps := 4000000) -implicitDefEqProofs -dsimp (disch := omega) only [↓AW_ops, ↓AW_seq, ↓AW_block, ↓AOps_nil, ↓AOps_pu, on_some, ↓then_normal, pval, rd_S, rd_C, put_S, ↓AW_toLoop, chkd, isAdr, bgot, AV.cells?, partA, eq_self, List.replicate_succ, List.replicate_zero, List.set_cons_zero, List.set_cons_succ, List.getElem?_cons_zero, List.getElem?_cons_succ, List.drop_zero, List.drop_succ_cons, List.take_succ_cons, List.take_nil, Option.getD_some, List.length_cons, List.length_nil, Nat.reduceAdd, Nat.reduceSub, Nat.reduceLeDiff, Nat.zero_add, List.cons_append, List.nil_append, if_true, if_false, Bool.false_eq_true, hV.ls.len]
  refine LoopK.by 33 (fun z : Nat × AV × AHeap => z.1 ≤ ws.length ∧ AccL 2 e2 A z.2.2 z.2.1 ((prts L (lists ws) P).take z.1 |>.map rp)) (fun z => [(1, v), (2, .agg [x, y]), (5, z.2.1), (10, I ws.length), (11, I z.1)]) (fun z => z.2.2) (fun z => ws.length - z.1) (0, .nilS, A) ⟨by omega, AccL.nil (List.prefix_refl _)⟩ rfl (by simp [Has, rd_s]) rfl ?_
  rintro ⟨i, u, A1⟩ ⟨hi, hu⟩
  simp only at hi hu
  have hL1 := hL.mono hu.pre
  have hV1 := hV.mono hu.pre
  have hP1 := hP.mono hu.pre
  have hpl : (prts L (lists ws) P).length = ws.length := by simp [prts]
  by_cases hlt : i < ws.length
  · obtain ⟨w, hz⟩ : ∃ z, ws[i]? = some z := ⟨_, List.getElem?_eq_getElem hlt⟩
    have hlt' : (i : Int) < ws.length := by omega
    have hmr := mem_lists (List.mem_of_getElem? hz)
    have ht := tot_bound (h.gd hmr)
    have htp := h.tot_pos hmr
    obtain ⟨k, hat⟩ := hown i hlt
    obtain ⟨hpm, hpo⟩ := hat.o
    obtain ⟨f1, f2, f3, f4⟩ := pwo_facts h hc hmr hpm
    have hq : (prts L (lists ws) P)[i]? = some (pwo (L.zip w.2) (P i) / ((tot (L.zip w.2) : Int) : Rat)) := by
      unfold prts
      rw [List.getElem?_map, List.getElem?_range (by omega), Option.map_some, rowOf_at hz]
    have htl : ((prts L (lists ws) P).take i).length = i := by rw [List.length_take]; omega
    obtain ⟨u3, A3, happ, hu3⟩ := hu.push e2_len (rp (pwo (L.zip w.2) (P i) / ((tot (L.zip w.2) : Int) : Rat))) (by rw [List.length_map, htl]; simp [lim]; omega)
    rw [e2_rp] at happ
    have hu3 : AccL 2 e2 A A3 u3 (((prts L (lists ws) P).take (i + 1)).map rp) := by
      rw [List.take_add_one, hq, Option.toList_some, List.map_append]; exact hu3
    simp (maxSteps := 4000000) -implicitDefEqProofs -dsimp (disch := omega) only [↓AW_skip, ↓AW_ops, ↓AW_seq, ↓AW_cond, ↓AW_block, ↓AOps_nil, ↓AOps_pu, ↓AOps_call, on_some, condB_t, ↓then_normal, pval, rd_S, put_S, mk, List.foldl_cons, List.foldl_nil, List.replicate_succ, List.replicate_zero, List.set_cons_zero, List.set_cons_succ, List.getElem?_cons_zero, List.getElem?_cons_succ, Option.getD_some, map_c, map_n, bin_lss, decide_true, hlt']
    refine CallK.of (c_own hP1 hl hat) ?_
    simp (maxSteps := 4000000) -implicitDefEqProofs -dsimp (disch := omega) only [↓AW_ops, ↓AOps_nil, ↓AOps_pu, ↓AOps_call, on_some, extK_same, ↓then_normal, pval, rd_S, rd_C, put_S, chkd, isAdr, bput, bgot, AV.cells?, splice, partA, eq_self, mk, List.foldl_cons, List.foldl_nil, List.replicate_succ, List.replicate_zero, List.set_cons_zero, List.set_cons_succ, List.getElem?_cons_zero, List.getElem?_cons_succ, List.drop_zero, List.drop_succ_cons, List.drop_nil, List.take_zero, List.take_succ_cons, List.take_nil, Option.getD_some, map_c, map_n, List.length_cons, List.length_nil, Nat.reduceAdd, Nat.reduceLeDiff, Nat.reduceEqDiff, Nat.zero_add, List.nil_append, List.append_nil, if_true, if_false, ne_eq, not_true_eq_false]
    refine CallK.of (c_pwo hL1 hV1 h hc hz hpm) ?_
    simp (maxSteps := 4000000) -implicitDefEqProofs -dsimp (disch := omega) only [↓AOps_pu, ↓AOps_call, on_some, extK_same, pval, rd_S, put_S, chkd, bgot, partA, eq_self, mk, List.foldl_cons, List.foldl_nil, List.replicate_succ, List.replicate_zero, List.set_cons_zero, List.set_cons_succ, List.getElem?_cons_zero, List.getElem?_cons_succ, List.drop_zero, List.take_succ_cons, List.take_nil, Option.getD_some, map_c, map_n, List.length_cons, List.length_nil, Nat.reduceAdd, Nat.reduceLeDiff, Nat.reduceEqDiff, Nat.zero_add, if_true, if_false]
    refine CallK.of (c_whole hL1 hV1 h hz) ?_
    simp (maxSteps := 4000000) -implicitDefEqProofs -dsimp (disch := omega) only [↓AOps_call, extK_same, rd_S, put_S, mk, List.foldl_cons, List.foldl_nil, List.replicate_succ, List.replicate_zero, List.set_cons_zero, List.set_cons_succ, List.getElem?_cons_zero, List.getElem?_cons_succ, Option.getD_some, map_c, map_n]
    refine CallK.of (c_Div _ _ _ (by omega) (by omega) ⟨by omega, by omega⟩) ?_
    simp (maxSteps := 4000000) -implicitDefEqProofs -dsimp (disch := omega) only [↓AW_ops, ↓AOps_nil, ↓AOps_pu, ↓AOps_ha, on_some, extK_false, extK_app, extK_same, ↓then_normal, ↓inBlock_normal, pval, hval, rd_S, rd_C, put_S, AV.cells?, splice, fillA, repl, eq_self, mk, List.foldl_cons, List.foldl_nil, List.replicate_succ, List.replicate_zero, List.set_cons_zero, List.set_cons_succ, List.getElem?_cons_zero, List.getElem?_cons_succ, List.drop_succ_cons, List.drop_nil, List.take_zero, Option.getD_some, map_c, map_n, List.length_cons, List.length_nil, Nat.reduceAdd, Nat.reduceLeDiff, Nat.zero_add, List.nil_append, List.append_nil, bin_add, w64, if_true, true_and, and_true, R, happ]
    exact ⟨(i + 1, u3, A3), ⟨hlt, hu3⟩, by simp [Has, rd_s], rfl, by simp only; omega⟩
  · have hlt' : ¬ ((i : Int) < ws.length) := by omega
    simp (maxSteps := 4000000) -implicitDefEqProofs -dsimp (disch := omega) only [↓AW_ops, ↓AW_seq, ↓AW_cond, ↓AW_exit, ↓AW_ret, ↓AOps_nil, ↓AOps_pu, on_some, condB_f, ↓then_normal, ↓then_exit, ↓inBlock_exit, ↓Fin_ret, pval, rd_S, put_S, resV, resL, eq_self, mk, List.foldl_cons, List.foldl_nil, List.replicate_succ, List.replicate_zero, List.set_cons_zero, List.set_cons_succ, List.getElem?_cons_zero, List.getElem?_cons_succ, Option.getD_some, bin_lss, if_true, decide_false, hlt']
    rw [List.take_of_length_le (by omega)] at hu
    exact hu.gc flat_e2
theorem s31 (hL : L1 A x L) (hV : LL A y ws) (hs : Sz L ws) (h : KG L (lists ws)) {pcs : List Pc} {v : AV} (hP : L5 A v pcs) (hl : pcs.length ≤ 1000000) (hW : ∀ p ∈ pcs, W p.r.1 ∧ W p.s.1) (hc : CP L (lists ws) pcs) (P : Nat → Pc) (hown : ∀ o : Nat, o < ws.length → ∃ k, At pcs o k (P o)) :
    ACalls Try.prog 31 [.agg [x, y], v] A (.tuple [outV 2 A ((prts L (lists ws) P).map rp).length, I 0]) (outH A (((prts L (lists ws) P).map rp).flatMap e2) ((prts L (lists ws) P).map rp).length) := by
  refine acalls hmix Try.func31 (by kernel_rfl) t31 2 rfl (by decide) ?_
  have hcE : cpE L (lists ws) pcs = 0 := by rw [cpE, if_pos h.e, if_pos hc]
  dsimp only [m31]
  simp (maxSteps := 4000000) -implicitDefEqProofs -dsimp (disch := omega) only [↓AW_ops, ↓AW_seq, ↓AOps_nil, ↓AOps_pu, ↓AOps_call, on_some, ↓then_normal, pval, rd_S, rd_C, put_S, chkd, bgot, AV.cells?, partA, eq_self, List.replicate_succ, List.replicate_zero, List.set_cons_zero, List.set_cons_succ, List.getElem?_cons_zero, List.getElem?_cons_succ, List.drop_zero, List.take_succ_cons, List.take_nil, Option.getD_some, map_c, map_n, List.length_cons, List.length_nil, Nat.reduceAdd, Nat.reduceSub, Nat.reduceLeDiff, Nat.reduceEqDiff, Nat.zero_add, List.cons_append, List.nil_append, if_true, if_false]
  refine CallK.of (s35 hL hV hs hP hl hW) ?_
  simp (maxSteps := 4000000) -implicitDefEqProofs -dsimp (disch := omega) only [↓AW_skip, ↓AW_ops, ↓AW_seq, ↓AW_cond, ↓AOps_nil, ↓AOps_pu, ↓AOps_call, on_some, extK_same, condB_f, ↓then_normal, pval, rd_S, rd_C, put_S, chkd, bgot, partA, eq_self, List.replicate_succ, List.replicate_zero, List.set_cons_zero, List.set_cons_succ, List.getElem?_cons_zero, List.getElem?_cons_succ, List.drop_zero, List.take_succ_cons, List.take_nil, Option.getD_some, map_c, map_n, List.length_cons, List.length_nil, Nat.reduceAdd, Nat.reduceSub, Nat.reduceLeDiff, Nat.reduceEqDiff, Nat.zero_add, List.cons_append, List.nil_append, bin_neq, if_true, if_false, decide_false, not_true_eq_false, hcE]
  refine CallK.of (c_parts hL hV h hP hl hc P hown) ?_
  simp (maxSteps := 4000000) -implicitDefEqProofs -dsimp (disch := omega) only [↓AW_ret, ↓AOps_nil, ↓AOps_pu, on_some, extK_false, ↓then_normal, ↓Fin_ret, pval, rd_S, rd_C, put_S, resV, resL, List.replicate_succ, List.replicate_zero, List.set_cons_zero, List.set_cons_succ, List.getElem?_cons_zero, List.getElem?_cons_succ, Option.getD_some, Nat.reduceSub, List.cons_append, List.nil_append]
  exact gc_all
set_option maxRecDepth 20000 in
set_option maxHeartbeats 2000000 in
theorem s6 (hL : L1 A x L) (hV : LL A y ws) (hl : ws.length ≤ 9223372036854775807) : ACalls Try.prog 6 [.agg [x, y]] A (B true) A := by
  refine acalls hmix Try.func6 (by kernel_rfl) t6 1 rfl (by decide) ?_
  dsimp only [m6]
  simp (maxSteps := 4000000) -implicitDefEqProofs -dsimp (disch := omega) only [↓AW_ops, ↓AW_seq, ↓AOps_nil, ↓AOps_pu, ↓AOps_call, on_some, ↓then_normal, pval, rd_S, rd_C, put_S, chkd, bgot, AV.cells?, partA, eq_self, List.replicate_succ, List.replicate_zero, List.set_cons_zero, List.set_cons_succ, List.getElem?_cons_zero, List.getElem?_cons_succ, List.drop_zero, List.take_succ_cons, List.take_nil, Option.getD_some, map_c, map_n, List.length_cons, List.length_nil, Nat.reduceAdd, Nat.reduceSub, Nat.reduceLeDiff, Nat.reduceEqDiff, Nat.zero_add, List.cons_append, List.nil_append, if_true, if_false]
  refine CallK.of (c_Long hL hV hl) ?_
  by_cases h : longK L ws
  · simp (maxSteps := 4000000) -implicitDefEqProofs -dsimp (disch := omega) only [↓AW_ops, ↓AW_seq, ↓AW_cond, ↓AOps_nil, ↓AOps_call, extK_same, condB_t, ↓then_normal, rd_S, put_S, List.replicate_succ, List.replicate_zero, List.set_cons_zero, List.set_cons_succ, List.getElem?_cons_zero, List.getElem?_cons_succ, Option.getD_some, map_n, Nat.reduceSub, List.cons_append, List.nil_append, decide_true, h]
    refine CallK.of (known A) ?_
    simp (maxSteps := 4000000) -implicitDefEqProofs -dsimp (disch := omega) only [↓AW_ret, ↓AOps_nil, ↓AOps_pu, on_some, extK_same, ↓then_normal, ↓then_ret, ↓Fin_ret, pval, rd_S, put_S, resV, resL, List.replicate_succ, List.replicate_zero, List.set_cons_zero, List.set_cons_succ, List.getElem?_cons_zero, List.getElem?_cons_succ, Option.getD_some, Nat.reduceSub, List.cons_append, List.nil_append]
    exact gc_same rfl
  have hs := Sz_of h
  simp (maxSteps := 4000000) -implicitDefEqProofs -dsimp (disch := omega) only [↓AW_skip, ↓AW_ops, ↓AW_seq, ↓AW_cond, ↓AOps_nil, ↓AOps_pu, ↓AOps_call, on_some, extK_same, condB_f, ↓then_normal, pval, rd_S, put_S, chkd, bgot, partA, eq_self, List.replicate_succ, List.replicate_zero, List.set_cons_zero, List.set_cons_succ, List.getElem?_cons_zero, List.getElem?_cons_succ, List.drop_zero, List.take_succ_cons, List.take_nil, Option.getD_some, map_c, map_n, List.length_cons, List.length_nil, Nat.reduceAdd, Nat.reduceSub, Nat.reduceLeDiff, Nat.reduceEqDiff, Nat.zero_add, List.cons_append, List.nil_append, if_true, if_false, decide_false, h]
  by_cases h0 : twE L (lists ws) = 0
  case neg =>
    refine CallK.of ((s28 hL hV hs).1 h0) ?_
    simp (maxSteps := 4000000) -implicitDefEqProofs -dsimp (disch := omega) only [↓AW_ops, ↓AW_seq, ↓AOps_nil, ↓AOps_pu, ↓AOps_call, on_some, extK_same, ↓then_normal, pval, rd_S, put_S, chkd, bgot, partA, eq_self, List.replicate_succ, List.replicate_zero, List.set_cons_zero, List.set_cons_succ, List.getElem?_cons_zero, List.getElem?_cons_succ, List.drop_zero, List.take_succ_cons, List.take_nil, Option.getD_some, map_c, map_n, List.length_cons, List.length_nil, Nat.reduceAdd, Nat.reduceSub, Nat.reduceLeDiff, Nat.reduceEqDiff, Nat.zero_add, List.cons_append, List.nil_append, if_true, if_false]
    refine CallK.of ((s29 hL hV hs).1 h0) ?_
    simp (maxSteps := 4000000) -implicitDefEqProofs -dsimp (disch := omega) only [↓AW_ops, ↓AW_seq, ↓AOps_nil, ↓AOps_pu, ↓AOps_call, ↓AOps_guard, on_some, extK_same, guardB_ff, ↓then_normal, pval, rd_S, put_S, eq_self, List.replicate_succ, List.replicate_zero, List.set_cons_zero, List.set_cons_succ, List.getElem?_cons_zero, List.getElem?_cons_succ, Option.getD_some, map_c, map_n, Nat.reduceSub, List.cons_append, List.nil_append, bin_neq, decide_false, not_true_eq_false]
    refine CallK.of (c_same (xs := []) (ys := []) ⟨e5_len, rfl⟩ ⟨e5_len, rfl⟩ (by simp)) ?_
    simp (maxSteps := 4000000) -implicitDefEqProofs -dsimp (disch := omega) only [↓AW_skip, ↓AW_ops, ↓AW_seq, ↓AW_cond, ↓AOps_nil, ↓AOps_pu, ↓AOps_call, ↓AOps_guard, on_some, extK_same, guardB_ff, condB_t, condB_f, ↓then_normal, pval, rd_S, rd_C, put_S, eq_self, List.replicate_succ, List.replicate_zero, List.set_cons_zero, List.set_cons_succ, List.getElem?_cons_zero, List.getElem?_cons_succ, Option.getD_some, map_n, Nat.reduceSub, List.cons_append, List.nil_append, bin_neq, if_false, Bool.false_eq_true, Bool.not_true, decide_true, not_false_eq_true, h0]
    refine CallK.of (known A) ?_
    simp (maxSteps := 4000000) -implicitDefEqProofs -dsimp (disch := omega) only [↓AW_ret, ↓AOps_nil, ↓AOps_pu, on_some, extK_same, ↓then_normal, ↓then_ret, ↓Fin_ret, pval, rd_S, put_S, resV, resL, eq_self, List.replicate_succ, List.replicate_zero, List.set_cons_zero, List.set_cons_succ, List.getElem?_cons_zero, List.getElem?_cons_succ, Option.getD_some, Nat.reduceSub, List.cons_append, List.nil_append, decide_true]
    exact gc_same rfl
  obtain ⟨hg, w0, w1, hws⟩ := twE_0 h0
  have hk0 : ws[0]? = some w0 := by rw [hws]; rfl
  have hk1 : ws[1]? = some w1 := by rw [hws]; rfl
  have m0 := mem_lists (List.mem_of_getElem? hk0)
  have m1 := mem_lists (List.mem_of_getElem? hk1)
  have g0 := hg.gd m0
  have g1 := hg.gd m1
  have b0 := hg.tot_pos m0
  have b1 := hg.tot_pos m1
  obtain ⟨z, hz1, hz2, z0, z1, z2, z3⟩ := even_at hg m0 m1
  have hp1 := pre_app A [.cells true (cells2 L 0 z)]
  have hq1 := L5_2 (L := L) A 0 z
  have h29 := (s29 (hL.mono hp1) (hV.mono hp1) hs).2 w0 w1 z hws hg h0 hz1
  refine CallK.of ((s28 hL hV hs).2 w0 w1 z hws hg h0 hz2) ?_
  generalize A ++ [AObj.cells true (cells2 L 0 z)] = A1 at *
  generalize AV.sl 5 A.length 0 2 true = v1 at *
  simp (maxSteps := 4000000) -implicitDefEqProofs -dsimp (disch := omega) only [↓AW_ops, ↓AW_seq, ↓AOps_nil, ↓AOps_pu, ↓AOps_call, on_some, extK_false, ↓then_normal, pval, rd_S, put_S, chkd, bgot, partA, eq_self, List.replicate_succ, List.replicate_zero, List.set_cons_zero, List.set_cons_succ, List.getElem?_cons_zero, List.getElem?_cons_succ, List.drop_zero, List.take_succ_cons, List.take_nil, Option.getD_some, map_c, map_n, List.length_cons, List.length_nil, Nat.reduceAdd, Nat.reduceSub, Nat.reduceLeDiff, Nat.reduceEqDiff, Nat.zero_add, List.cons_append, List.nil_append, if_true, if_false]
  refine CallK.of h29 ?_
  have hp2 := pre_out A1 ((pcs2 L 0 z).flatMap e5) (pcs2 L 0 z).length
  have hq2 := Ls_out A1 e5_len (pcs2 L 0 z)
  generalize outV 5 A1 (pcs2 L 0 z).length = v2 at *
  generalize outH A1 ((pcs2 L 0 z).flatMap e5) (pcs2 L 0 z).length = A2 at *
  have hq1 := hq1.mono hp2
  have hp := hp1.trans hp2
  simp (maxSteps := 4000000) -implicitDefEqProofs -dsimp (disch := omega) only [↓AW_ops, ↓AW_seq, ↓AOps_nil, ↓AOps_pu, ↓AOps_call, ↓AOps_guard, on_some, extK_false, guardB_ff, ↓then_normal, pval, rd_S, put_S, eq_self, List.replicate_succ, List.replicate_zero, List.set_cons_zero, List.set_cons_succ, List.getElem?_cons_zero, List.getElem?_cons_succ, Option.getD_some, map_c, map_n, Nat.reduceSub, List.cons_append, List.nil_append, bin_neq, decide_false, not_true_eq_false]
  have hws2 : ws.length = 2 := by rw [hws]; rfl
  have hCP := CP2 hg (by simp [hws2]) z0 z1 (by omega) (c := 0) (.inl rfl)
  have hkz := (rp_isK hg z0 z1 (by omega)).2
  refine CallK.of (c_same hq1 hq2 (by simp [pcs2])) ?_
  simp (maxSteps := 4000000) -implicitDefEqProofs -dsimp (disch := omega) only [↓AW_skip, ↓AW_ops, ↓AW_seq, ↓AW_cond, ↓AOps_nil, ↓AOps_pu, ↓AOps_call, ↓AOps_guard, on_some, extK_same, guardB_ff, condB_f, ↓then_normal, pval, rd_S, rd_C, put_S, chkd, bgot, partA, eq_self, List.replicate_succ, List.replicate_zero, List.set_cons_zero, List.set_cons_succ, List.getElem?_cons_zero, List.getElem?_cons_succ, List.drop_zero, List.take_succ_cons, List.take_nil, Option.getD_some, map_c, map_n, List.length_cons, List.length_nil, Nat.reduceAdd, Nat.reduceSub, Nat.reduceLeDiff, Nat.reduceEqDiff, Nat.zero_add, List.cons_append, List.nil_append, bin_neq, if_true, if_false, Bool.false_eq_true, Bool.not_true, decide_true, decide_false, not_true_eq_false]
  have hown : ∀ o : Nat, o < ws.length → ∃ k, At (pcs2 L 0 z) o k (if o = 0 then ⟨0, (0, 1), rp z⟩ else ⟨1 - 0, rp z, (L.sum, 1)⟩) := by
    intro o ho
    have ho2 : o = 0 ∨ o = 1 := by omega
    rcases ho2 with rfl | rfl
    · exact ⟨0, rfl, rfl, fun j hj => by omega⟩
    · refine ⟨1, rfl, rfl, fun j hj q hq => ?_⟩
      have : j = 0 := by omega
      subst this
      have := Option.some.inj hq
      rw [← this]
      show ¬ (0 : Int) = ((1 : Nat) : Int)
      omega
  refine CallK.of (s31 (hL.mono hp) (hV.mono hp) hs hg hq1 (by simp [pcs2]) (pcs2_W hg z0 z1 (by omega) 0) hCP _ hown) ?_
  have hpr : prts L (lists ws) (fun o => if o = 0 then (⟨0, (0, 1), rp z⟩ : Pc) else ⟨1 - 0, rp z, (L.sum, 1)⟩) = [upTo 0 (L.zip w0.2) z / ((tot (L.zip w0.2) : Int) : Rat), upTo 0 (L.zip w0.2) z / ((tot (L.zip w0.2) : Int) : Rat)] := by
    have hll : (lists ws).length = 2 := by simp [hws2]
    have q0 : pwo (L.zip w0.2) ⟨0, (0, 1), rp z⟩ = upTo 0 (L.zip w0.2) z := by
      unfold pwo
      simp only [hkz, qr_zero, upTo_at0 g0]
      grind
    have q1 : pwo (L.zip w1.2) ⟨1 - 0, rp z, (L.sum, 1)⟩ = ((tot (L.zip w1.2) : Int) : Rat) - upTo 0 (L.zip w1.2) z := by
      unfold pwo
      simp only [hkz, qr_one, upTo_end hg m1]
    have ha := cast_ne (show tot (L.zip w0.2) ≠ 0 by omega)
    have hb := cast_ne (show tot (L.zip w1.2) ≠ 0 by omega)
    have e : (((tot (L.zip w1.2) : Int) : Rat) - upTo 0 (L.zip w1.2) z) / ((tot (L.zip w1.2) : Int) : Rat) = upTo 0 (L.zip w0.2) z / ((tot (L.zip w0.2) : Int) : Rat) := by
      rw [Rat.intCast_mul] at z3
      generalize ((tot (L.zip w0.2) : Int) : Rat) = a at *
      generalize ((tot (L.zip w1.2) : Int) : Rat) = b at *
      generalize upTo 0 (L.zip w0.2) z = c at *
      generalize upTo 0 (L.zip w1.2) z = d at *
      have k1 : (b - d) / b * b = b - d := Rat.div_mul_cancel hb
      have k2 : c / a * a = c := Rat.div_mul_cancel ha
      generalize (b - d) / b = s at *
      generalize c / a = t at *
      have k3 : s * (a * b) = t * (a * b) := by grind
      have hab : a * b ≠ 0 := by grind
      exact (by grind : s = t)
    have e0 : rowOf (lists ws) ((0 : Nat) : Int) = w0.2 := rowOf_at hk0
    have e1' : rowOf (lists ws) ((1 : Nat) : Int) = w1.2 := rowOf_at hk1
    unfold prts
    rw [hll]
    show [pwo (L.zip (rowOf (lists ws) ((0 : Nat) : Int))) _ / _, pwo (L.zip (rowOf (lists ws) ((1 : Nat) : Int))) _ / _] = _
    rw [e0, e1']
    show [pwo (L.zip w0.2) ⟨0, (0, 1), rp z⟩ / _, pwo (L.zip w1.2) ⟨1 - 0, rp z, (L.sum, 1)⟩ / _] = _
    rw [q0, q1, e]
  rw [hpr]
  generalize upTo 0 (L.zip w0.2) z / ((tot (L.zip w0.2) : Int) : Rat) = t at *
  have hp3 := pre_out A2 ((List.map rp [t, t]).flatMap e2) (List.map rp [t, t]).length
  have hq3 := Ls_out A2 e2_len (List.map rp [t, t])
  generalize outV 2 A2 (List.map rp [t, t]).length = v3 at *
  generalize outH A2 ((List.map rp [t, t]).flatMap e2) (List.map rp [t, t]).length = A3 at *
  have hlen : lenA v3 = some (I 2) := hq3.len
  have j0 := hq3.idx (k := .i64) (i := 0) (by simp)
  have j1 := hq3.idx (k := .i64) (i := 1) (by simp)
  rw [show ((0 : Nat) : Int) = 0 from rfl] at j0
  rw [show ((1 : Nat) : Int) = 1 from rfl] at j1
  have l0 := hq3.ld0 (i := 0) (x := rp t) rfl 2 true (by decide)
  have l1 := hq3.ld0 (i := 1) (x := rp t) rfl 2 true (by decide)
  rw [Nat.zero_mul, Nat.add_zero] at j0 l0
  rw [Nat.one_mul] at j1 l1
  simp (maxSteps := 4000000) -implicitDefEqProofs -dsimp (disch := omega) only [↓AW_ops, ↓AW_seq, ↓AOps_nil, ↓AOps_pu, ↓AOps_ld, ↓AOps_call, ↓AOps_guard, on_some, extK_false, guardB_tt, ↓then_normal, pval, lval, rd_S, rd_C, put_S, partA, eqc, beq_self_eq_true, eq_self, List.replicate_succ, List.replicate_zero, List.set_cons_zero, List.set_cons_succ, List.getElem?_cons_zero, List.getElem?_cons_succ, List.drop_zero, List.take_succ_cons, List.take_nil, Option.getD_some, Option.map_some, map_n, List.length_cons, List.length_nil, Nat.reduceAdd, Nat.reduceSub, Nat.reduceLeDiff, Nat.reduceEqDiff, Nat.zero_add, List.cons_append, List.nil_append, bin_eql, if_true, if_false, Bool.false_eq_true, Bool.true_and, decide_true, Go.Eng.e2, hlen, j0, j1, l0, l1]
  refine CallK.of (known A3) ?_
  simp (maxSteps := 4000000) -implicitDefEqProofs -dsimp (disch := omega) only [↓AW_ret, ↓AOps_nil, ↓AOps_pu, on_some, extK_same, ↓then_normal, ↓Fin_ret, pval, rd_S, rd_C, put_S, resV, resL, eq_self, List.replicate_succ, List.replicate_zero, List.set_cons_zero, List.set_cons_succ, List.getElem?_cons_zero, List.getElem?_cons_succ, Option.getD_some, Nat.reduceSub, List.cons_append, List.nil_append, if_true, decide_true]
  exact gc_val (hp.trans hp3) rfl
end
end Go.Proofs.Ytmblehbjedpjoaa

