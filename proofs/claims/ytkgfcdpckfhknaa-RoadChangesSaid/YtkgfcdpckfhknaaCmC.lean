/- What the law's proof rests on, part 5: for all that is said in each line. No conditions. -/
import Derived.Test.YtkgfcdpckfhknaaCmB
namespace Go.Proofs.Ytkgfcdpckfhknaa
open Go Go.Eng
theorem OL_base' {α : Type} {es : Nat} {e : α → List AV} {A B H : AHeap} {n : Nat} {v : AV} {xs : List α} (hp : A <+: B) (h : OL es e B H n v xs) : OL es e A H n v xs := ⟨h.he, hp.trans h.pre, Nat.le_trans hp.length_le h.new, h.ob, h.v⟩
section
variable {Q : Int} {rs qs : List Rd} {ks : List Int} {u v : AV} {A : AHeap} {k c : Int}
/-- The error of another cost. -/
def chE (Q : Int) (rs : List Rd) (k c : Int) : Int := if nE Q rs [k] = 0 then (if 0 ≤ c ∧ c ≤ 99 then 0 else 1) else nE Q rs [k]
theorem chE_n (h : ¬ nE Q rs [k] = 0) : chE Q rs k c = nE Q rs [k] := if_neg h
theorem chE_1 (h : nE Q rs [k] = 0) (h2 : ¬ (0 ≤ c ∧ c ≤ 99)) : chE Q rs k c = 1 := by unfold chE; rw [if_pos h, if_neg h2]
theorem chE_0 : chE Q rs k c = 0 ↔ nE Q rs [k] = 0 ∧ 0 ≤ c ∧ c ≤ 99 := by
  constructor
  · intro h
    have h1 : nE Q rs [k] = 0 := Classical.byContradiction (fun hn => by rw [chE_n hn] at h; exact hn h)
    exact ⟨h1, Classical.byContradiction (fun hn => by rw [chE_1 h1 hn] at h; cases h)⟩
  · rintro ⟨h1, h2⟩
    unfold chE
    rw [if_pos h1, if_pos h2]
/-- What is made with another cost. -/
def CHG (Q : Int) (rs : List Rd) (k c : Int) (A H : AHeap) (q : Int) (y : AV) : Prop :=
  (chE Q rs k c = 0 ∧ q = Q ∧ ∃ n, OL 3 e3 A H n y (chR rs k c)) ∨ (¬ chE Q rs k c = 0 ∧ q = 0 ∧ y = .nilS)
theorem s52 (hu : L3 A u rs) (hl : rs.length ≤ 1000000) : ∃ y H, ACalls Try.prog 52 [.agg [I Q, u]] A (.agg [I Q, y]) H ∧ ∃ n, OL 3 e3 A H n y rs := by
  have key : ∃ t H, ACalls Try.prog 52 [.agg [I Q, u]] A t H ∧ ∃ y, t = .agg [I Q, y] ∧ ∃ n, OL 3 e3 A H n y rs := by
    refine acallsR hmix Try.func52 (by kernel_rfl) t52 _ 1 rfl (by decide) ?_
    obtain ⟨v', n, H2, happ, ho⟩ := app_new hu (by simp only [lim]; omega)
    have hc := Ls_cells ho.ls
    dsimp only [m52]
    simp (maxSteps := 4000000) -implicitDefEqProofs -dsimp (disch := omega) only [↓AW_ops, ↓AW_seq, ↓AW_ret, ↓AOps_nil, ↓AOps_pu, ↓AOps_ha, on_some, extK_false, extK_app, ↓then_normal, ↓FinR_ret, pval, hval_blds, hval_app, rd_S, rd_C, put_S, resV, resL, chkd, isAdr, bput, bgot, cells_agg, cells_int, splice, partA, fillA, repl, eq_self, List.replicate_succ, List.replicate_zero, List.set_cons_zero, List.set_cons_succ, List.getElem?_cons_zero, List.getElem?_cons_succ, List.drop_zero, List.drop_succ_cons, List.drop_nil, List.take_zero, List.take_succ_cons, List.take_nil, Option.getD_some, Option.map_some, map_c, map_n, List.length_cons, List.length_nil, Nat.reduceAdd, Nat.reduceSub, Nat.reduceLeDiff, Nat.reduceEqDiff, Nat.zero_add, List.cons_append, List.nil_append, List.append_nil, if_true, if_false, Bool.false_eq_true, and_true, ne_eq, not_true_eq_false, List.replicate_zero, repl, happ, hc]
    exact ⟨_, _, gc_all, _, rfl, n, ho⟩
  obtain ⟨t, H, h1, y, rfl, h2⟩ := key
  exact ⟨y, H, h1, h2⟩
theorem s94 (hu : L3 A u rs) (h0 : 0 < rs.length) (hl : rs.length ≤ 1000000) : ACalls Try.prog 94 [u] A (.sl 3 (A.length + 1) 0 rs.length false) (A ++ [.cells true [], .cells true (rs.flatMap e3)]) := by
  refine acalls hmix Try.func94 (by kernel_rfl) t94 1 rfl (by decide) ?_
  rcases hu.inv with ⟨rfl, rfl⟩ | ⟨n, off, full, rw, l, rfl, h1, h2, h3⟩
  · simp at h0
  · have happ := app_fresh (hu.mono (pre_app A [.cells true []])) (get_new A (.cells true [])) h0 (by simp [lim]; omega)
    rw [List.length_append, List.length_singleton] at happ
    dsimp only [m94]
    simp (maxSteps := 4000000) -implicitDefEqProofs -dsimp (disch := omega) only [↓AW_skip, ↓AW_ops, ↓AW_seq, ↓AW_cond, ↓AW_ret, ↓AOps_nil, ↓AOps_pu, ↓AOps_ha, on_some, extK_app, condB_f, ↓then_normal, ↓Fin_ret, pval, hval_blds, hval_app, rd_S, rd_C, put_S, resV, resL, fillA, repl, List.replicate_succ, List.replicate_zero, List.set_cons_zero, List.set_cons_succ, List.getElem?_cons_zero, List.getElem?_cons_succ, Option.getD_some, map_n, Nat.reduceSub, List.cons_append, List.nil_append, List.replicate_zero, repl, happ]
    exact gc_same_all rfl (by simp)
theorem gcN {α : Type} {es : Nat} {e : α → List AV} {H H1 : AHeap} {y : AV} {xs : List α} (h : AccL es e H H1 y xs) (hf : ∀ x, ∀ z ∈ e x, flat z = true) (q d : Int) : GC H (.tuple [.agg [I q, y], I d]) H1 (.tuple [.agg [I q, outV es H xs.length], I d]) (outH H (xs.flatMap e) xs.length) := by
  obtain ⟨f, h1, h2⟩ := Acc.keep h (fun y hy => by
    obtain ⟨x, _, hx⟩ := List.mem_flatMap.1 hy
    exact hf x y hx)
  refine gc_keep h1 ?_
  simp [ren, h2 1]
theorem ch_st {A H : AHeap} {n : Nat} {y : AV} (ho : OL 3 e3 A H n y rs) (hk : 0 ≤ k ∧ k ≤ (rs.length : Int) - 1) (c : Int) : stA 1 (.ptr (nm y) (of y + k.toNat * 3 + 2)) (I c) H = some (H.set n (.cells true ((chR rs k c).flatMap e3))) := by
  have hi : k.toNat < rs.length := by omega
  obtain ⟨hr, _⟩ := rdx_at hk.1 hk.2
  have hx : rs[k.toNat] = rdx rs k := by
    rw [List.getElem?_eq_getElem hi] at hr
    exact Option.some.inj hr
  exact OL_stF ho hi 2 1 (I c) [I c] ((rdx rs k).1, (rdx rs k).2.1, c) rfl rfl (by omega) (by rw [hx]; rfl)
set_option maxRecDepth 20000 in
set_option maxHeartbeats 16000000 in
theorem s54 (hu : L3 A u rs) (hP : W Q) (k c : Int) : ∃ q y H, ACalls Try.prog 54 [.agg [I Q, u], I k, I c] A (.tuple [.agg [I q, y], I (chE Q rs k c)]) H ∧ A <+: H ∧ CHG Q rs k c A H q y := by
  have key : ∃ t H, ACalls Try.prog 54 [.agg [I Q, u], I k, I c] A t H ∧ ∃ q y, t = .tuple [.agg [I q, y], I (chE Q rs k c)] ∧ A <+: H ∧ CHG Q rs k c A H q y := by
    refine acallsR hmix Try.func54 (by kernel_rfl) t54 _ 3 rfl (by decide) ?_
    have hpA := pre_app A [AObj.cells true [I k]]
    dsimp only [m54]
    simp (maxSteps := 4000000) -implicitDefEqProofs -dsimp (disch := omega) only [↓AW_ops, ↓AW_seq, ↓AOps_nil, ↓AOps_pu, ↓AOps_ha, ↓AOps_call, on_some, extK_app, ↓then_normal, pval, hval_blds, rd_S, rd_C, put_S, chkd, bgot, cells_agg, cells_int, splice, partA, fillA, repl, eq_self, List.replicate_succ, List.replicate_zero, List.set_cons_zero, List.set_cons_succ, List.getElem?_cons_zero, List.getElem?_cons_succ, List.drop_zero, List.drop_succ_cons, List.drop_nil, List.take_zero, List.take_succ_cons, List.take_nil, Option.getD_some, map_c, map_n, List.length_cons, List.length_nil, Nat.reduceAdd, Nat.reduceSub, Nat.reduceLeDiff, Nat.reduceEqDiff, Nat.zero_add, List.cons_append, List.nil_append, List.append_nil, if_true, if_false, and_true, List.replicate_zero, repl]
    refine CallK.of (s64 (hu.mono hpA) hP (L1_one A k) (by simp)) ?_
    by_cases h0 : nE Q rs [k] = 0
    case neg =>
      have hE := chE_n (c := c) h0
      simp (maxSteps := 4000000) -implicitDefEqProofs -dsimp (disch := omega) only [↓AW_ops, ↓AW_seq, ↓AW_cond, ↓AW_ret, ↓AOps_nil, ↓AOps_pu, on_some, extK_same, condB_t, ↓then_normal, ↓then_ret, ↓FinR_ret, pval, rd_S, rd_C, put_S, resV, resL, chkd, bput, bgot, cells_agg, splice, partA, fillA, eq_self, List.replicate_succ, List.replicate_zero, List.set_cons_zero, List.set_cons_succ, List.getElem?_cons_zero, List.getElem?_cons_succ, List.drop_zero, List.drop_succ_cons, List.drop_nil, List.take_zero, List.take_succ_cons, List.take_nil, Option.getD_some, Option.map_some, map_n, List.length_cons, List.length_nil, Nat.reduceAdd, Nat.reduceSub, Nat.reduceLeDiff, Nat.reduceEqDiff, Nat.zero_add, List.cons_append, List.nil_append, List.append_nil, bin_neq, if_true, if_false, decide_true, ne_eq, not_true_eq_false, not_false_eq_true, h0]
      exact ⟨_, _, gc_all, 0, .nilS, by rw [hE], hpA, .inr ⟨by rw [hE]; exact h0, rfl, rfl⟩⟩
    rw [h0]
    simp (maxSteps := 4000000) -implicitDefEqProofs -dsimp (disch := omega) only [↓AW_skip, ↓AW_ops, ↓AW_seq, ↓AW_cond, ↓AOps_nil, ↓AOps_pu, ↓AOps_call, on_some, extK_same, condB_f, ↓then_normal, pval, rd_S, rd_C, put_S, eq_self, List.replicate_succ, List.replicate_zero, List.set_cons_zero, List.set_cons_succ, List.getElem?_cons_zero, List.getElem?_cons_succ, Option.getD_some, map_c, map_n, Nat.reduceSub, List.cons_append, List.nil_append, bin_neq, decide_false, not_true_eq_false]
    refine CallK.of (c_wi _ _ _ _) ?_
    by_cases h1 : 0 ≤ c ∧ c ≤ 99
    case neg =>
      have hE := chE_1 h0 h1
      simp (maxSteps := 4000000) -implicitDefEqProofs -dsimp (disch := omega) only [↓AW_ops, ↓AW_seq, ↓AW_cond, ↓AW_ret, ↓AOps_nil, ↓AOps_pu, on_some, extK_same, condB_t, ↓then_normal, ↓then_ret, ↓FinR_ret, pval, rd_S, rd_C, put_S, resV, resL, chkd, bput, bgot, cells_agg, splice, partA, fillA, eq_self, List.replicate_succ, List.replicate_zero, List.set_cons_zero, List.set_cons_succ, List.getElem?_cons_zero, List.getElem?_cons_succ, List.drop_zero, List.drop_succ_cons, List.drop_nil, List.take_zero, List.take_succ_cons, List.take_nil, Option.getD_some, Option.map_some, map_n, List.length_cons, List.length_nil, Nat.reduceAdd, Nat.reduceSub, Nat.reduceLeDiff, Nat.reduceEqDiff, Nat.zero_add, List.cons_append, List.nil_append, List.append_nil, if_true, if_false, Bool.not_false, decide_false, ne_eq, not_true_eq_false, h1]
      exact ⟨_, _, gc_all, 0, .nilS, by rw [hE], hpA, .inr ⟨by rw [hE]; decide, rfl, rfl⟩⟩
    obtain ⟨hn, hk⟩ := nE_1 h0
    have hl14 := hn.l
    have hE : chE Q rs k c = 0 := chE_0.2 ⟨h0, h1⟩
    simp (maxSteps := 4000000) -implicitDefEqProofs -dsimp (disch := omega) only [↓AW_skip, ↓AW_ops, ↓AW_seq, ↓AW_cond, ↓AOps_nil, ↓AOps_pu, ↓AOps_call, on_some, extK_same, condB_f, ↓then_normal, pval, rd_S, put_S, chkd, bgot, partA, eq_self, List.replicate_succ, List.replicate_zero, List.set_cons_zero, List.set_cons_succ, List.getElem?_cons_zero, List.getElem?_cons_succ, List.drop_zero, List.take_succ_cons, List.take_nil, Option.getD_some, map_c, map_n, List.length_cons, List.length_nil, Nat.reduceAdd, Nat.reduceSub, Nat.reduceLeDiff, Nat.reduceEqDiff, Nat.zero_add, List.cons_append, List.nil_append, if_true, if_false, Bool.not_true, decide_true, and_true, h1]
    obtain ⟨y, H, c1, n, ho⟩ := s52 (Q := Q) (hu.mono hpA) (by omega)
    refine CallK.of c1 ?_
    have hc := Ls_cells ho.ls
    have hst := ch_st ho hk c
    have hii := ho.ls.idxI (k := .i64) hk.1 (show k < (rs.length : Int) by omega)
    have ho2 := OL_base' hpA ho
    have ho3 := OL_setAll ho2 (chR rs k c) (chR_len rs k c)
    simp (maxSteps := 4000000) -implicitDefEqProofs -dsimp (disch := omega) only [↓AW_ops, ↓AW_seq, ↓AW_ret, ↓AOps_nil, ↓AOps_pu, ↓AOps_ha, on_some, extK_false, ↓then_normal, ↓FinR_ret, pval, hval_st, rd_S, rd_C, put_S, putS_none, resV, resL, chkd, isAdr, bput, bgot, cells_agg, splice, partA, eq_self, List.replicate_succ, List.replicate_zero, List.set_cons_zero, List.set_cons_succ, List.getElem?_cons_zero, List.getElem?_cons_succ, List.drop_zero, List.drop_succ_cons, List.drop_nil, List.take_zero, List.take_succ_cons, List.take_nil, Option.getD_some, Option.map_some, List.length_cons, List.length_nil, Nat.reduceAdd, Nat.reduceSub, Nat.reduceLeDiff, Nat.reduceEqDiff, Nat.zero_add, List.cons_append, List.nil_append, List.append_nil, if_true, if_false, Bool.false_eq_true, ne_eq, not_true_eq_false, hii, hst]
    exact ⟨_, _, gc_all, Q, y, by rw [hE], ho3.pre, .inl ⟨hE, rfl, n, ho3⟩⟩
  obtain ⟨t, H, h1, q, y, rfl, h2⟩ := key
  exact ⟨q, y, H, h1, h2⟩
set_option maxRecDepth 20000 in
set_option maxHeartbeats 16000000 in
theorem s55 {q q' : Int} (hu : L3 A u rs) (hv : L3 A v qs) (hl : rs.length ≤ 1000000) : ACalls Try.prog 55 [.agg [I q, u], .agg [I q', v]] A (B (decide (q = q' ∧ rs = qs))) A := by
  refine acalls hmix Try.func55 (by kernel_rfl) t55 2 rfl (by decide) ?_
  by_cases h1 : q = q'
  case neg =>
    rw [decide_eq_false (fun h => h1 h.1)]
    dsimp only [m55]
    simp (maxSteps := 4000000) -implicitDefEqProofs -dsimp (disch := omega) only [↓AW_ops, ↓AW_seq, ↓AW_cond, ↓AW_ret, ↓AOps_nil, ↓AOps_pu, ↓AOps_guard, on_some, guardB_tf, skipS_some, condB_t, ↓then_normal, ↓then_ret, ↓Fin_ret, pval, rd_S, rd_C, put_S, resV, resL, chkd, isAdr, bgot, AV.cells?, partA, eq_self, List.replicate_succ, List.replicate_zero, List.set_cons_zero, List.set_cons_succ, List.getElem?_cons_zero, List.getElem?_cons_succ, List.drop_zero, List.take_zero, List.take_succ_cons, Option.getD_some, List.length_cons, List.length_nil, Nat.reduceAdd, Nat.reduceSub, Nat.reduceLeDiff, Nat.zero_add, List.cons_append, List.nil_append, bin_neq, if_true, if_false, Bool.false_eq_true, decide_true, not_false_eq_true, h1]
    exact gc_same rfl
  subst h1
  by_cases h2 : rs.length = qs.length
  case neg =>
    have h2' : ¬ ((rs.length : Int) = qs.length) := by omega
    rw [decide_eq_false (fun h => h2 (by rw [h.2]))]
    dsimp only [m55]
    simp (maxSteps := 4000000) -implicitDefEqProofs -dsimp (disch := omega) only [↓AW_ops, ↓AW_seq, ↓AW_cond, ↓AW_ret, ↓AOps_nil, ↓AOps_pu, ↓AOps_guard, on_some, guardB_ff, condB_t, ↓then_normal, ↓then_ret, ↓Fin_ret, pval, rd_S, rd_C, put_S, resV, resL, chkd, isAdr, bgot, AV.cells?, partA, eq_self, List.replicate_succ, List.replicate_zero, List.set_cons_zero, List.set_cons_succ, List.getElem?_cons_zero, List.getElem?_cons_succ, List.drop_zero, List.drop_succ_cons, List.take_zero, List.take_succ_cons, List.take_nil, Option.getD_some, List.length_cons, List.length_nil, Nat.reduceAdd, Nat.reduceSub, Nat.reduceLeDiff, Nat.zero_add, List.cons_append, List.nil_append, bin_neq, if_true, if_false, Bool.false_eq_true, decide_true, decide_false, not_true_eq_false, not_false_eq_true, hu.len, hv.len, h2']
    exact gc_same rfl
  have h2' : (rs.length : Int) = qs.length := by omega
  dsimp only [m55]
  simp (maxSteps := 4000000) -implicitDefEqProofs -dsimp (disch := omega) only [↓AW_skip, ↓AW_ops, ↓AW_seq, ↓AW_cond, ↓AW_block, ↓AOps_nil, ↓AOps_pu, ↓AOps_guard, on_some, guardB_ff, condB_f, ↓then_normal, pval, rd_S, rd_C, put_S, ↓AW_toLoop, chkd, isAdr, bgot, AV.cells?, partA, eq_self, List.replicate_succ, List.replicate_zero, List.set_cons_zero, List.set_cons_succ, List.getElem?_cons_zero, List.getElem?_cons_succ, List.drop_zero, List.drop_succ_cons, List.take_zero, List.take_succ_cons, List.take_nil, Option.getD_some, List.length_cons, List.length_nil, Nat.reduceAdd, Nat.reduceSub, Nat.reduceLeDiff, Nat.zero_add, List.cons_append, List.nil_append, bin_neq, if_true, if_false, Bool.false_eq_true, decide_false, not_true_eq_false, hu.len, hv.len, h2']
  refine LoopK.by 38 (fun i : Nat => i ≤ rs.length ∧ rs.take i = qs.take i) (fun i => [(2, .agg [I q, u]), (3, .agg [I q, v]), (5, I i)]) (fun _ => A) (fun i => rs.length - i) 0 ⟨by omega, by simp⟩ rfl (by simp [Has, rd_s]) rfl ?_
  rintro i ⟨hi, he⟩
  by_cases hlt : i < rs.length
  · obtain ⟨z, hz⟩ : ∃ z, rs[i]? = some z := ⟨_, List.getElem?_eq_getElem hlt⟩
    have hlt' : (i : Int) < rs.length := by omega
    obtain ⟨w, hw⟩ : ∃ w, qs[i]? = some w := ⟨_, List.getElem?_eq_getElem (by omega)⟩
    have hltq : i < qs.length := by omega
    by_cases hzw : z = w
    · subst hzw
      simp (maxSteps := 4000000) -implicitDefEqProofs -dsimp (disch := omega) only [↓AW_skip, ↓AW_ops, ↓AW_seq, ↓AW_cond, ↓AW_block, ↓AOps_nil, ↓AOps_pu, ↓AOps_ld, on_some, condB_t, condB_f, ↓then_normal, ↓inBlock_normal, pval, lval, rd_S, rd_C, put_S, chkd, isAdr, bgot, AV.cells?, partA, eqc, beq_self_eq_true, eq_self, mk, List.foldl_cons, List.foldl_nil, List.replicate_succ, List.replicate_zero, List.set_cons_zero, List.set_cons_succ, List.getElem?_cons_zero, List.getElem?_cons_succ, List.drop_zero, List.drop_succ_cons, List.take_succ_cons, List.take_nil, Option.getD_some, Option.map_some, List.length_cons, List.length_nil, Nat.reduceAdd, Nat.reduceLeDiff, Nat.reduceEqDiff, Nat.zero_add, bin_add, bin_lss, w64, if_true, if_false, Bool.false_eq_true, Bool.not_true, Bool.true_and, decide_true, true_and, hlt', hu.len, hu.idx hlt, hv.idx hltq, hu.ld0 hz 3 true (by decide), hv.ld0 hw 3 true (by decide), e3]
      exact ⟨i + 1, ⟨hlt, by rw [List.take_add_one, List.take_add_one, he, hz, hw]⟩, by simp [Has, rd_s], by omega⟩
    · have hne : ¬ (z.1 = w.1 ∧ z.2.1 = w.2.1 ∧ z.2.2 = w.2.2) := fun h => hzw (Prod.ext h.1 (Prod.ext h.2.1 h.2.2))
      have hall : ¬ rs = qs := fun h => hzw (by rw [h, hw] at hz; exact (Option.some.inj hz).symm)
      rw [decide_eq_false (fun h : q = q ∧ rs = qs => hall h.2)]
      have hx : (z.1 == w.1 && (z.2.1 == w.2.1 && z.2.2 == w.2.2)) = false := by
        rw [Bool.eq_false_iff]
        intro h
        simp only [Bool.and_eq_true, beq_iff_eq] at h
        exact hne h
      simp (maxSteps := 4000000) -implicitDefEqProofs -dsimp (disch := omega) only [↓AW_skip, ↓AW_ops, ↓AW_seq, ↓AW_cond, ↓AW_block, ↓AW_ret, ↓AOps_nil, ↓AOps_pu, ↓AOps_ld, on_some, condB_t, ↓then_normal, ↓then_ret, ↓inBlock_ret, ↓Fin_ret, pval, lval, rd_S, rd_C, put_S, resV, resL, chkd, isAdr, bgot, AV.cells?, partA, eqc, Bool.and_true, eq_self, mk, List.foldl_cons, List.foldl_nil, List.replicate_succ, List.replicate_zero, List.set_cons_zero, List.set_cons_succ, List.getElem?_cons_zero, List.getElem?_cons_succ, List.drop_zero, List.drop_succ_cons, List.take_succ_cons, List.take_nil, Option.getD_some, Option.map_some, List.length_cons, List.length_nil, Nat.reduceAdd, Nat.reduceLeDiff, Nat.reduceEqDiff, Nat.zero_add, bin_lss, if_true, if_false, Bool.false_eq_true, Bool.not_false, decide_true, hlt', hu.len, hu.idx hlt, hv.idx hltq, hu.ld0 hz 3 true (by decide), hv.ld0 hw 3 true (by decide), e3, hx]
      exact gc_same rfl
  · have hlt' : ¬ ((i : Int) < rs.length) := by omega
    rw [List.take_of_length_le (by omega), List.take_of_length_le (by omega)] at he
    rw [decide_eq_true (⟨rfl, he⟩ : q = q ∧ rs = qs)]
    have hlq : ¬ ((i : Int) < qs.length) := by omega
    simp (maxSteps := 4000000) -implicitDefEqProofs -dsimp (disch := omega) only [↓AW_ops, ↓AW_seq, ↓AW_cond, ↓AW_exit, ↓AW_ret, ↓AOps_nil, ↓AOps_pu, on_some, condB_f, ↓then_normal, ↓then_exit, ↓inBlock_exit, ↓Fin_ret, pval, rd_S, rd_C, put_S, resV, resL, chkd, isAdr, bgot, AV.cells?, partA, eq_self, mk, List.foldl_cons, List.foldl_nil, List.replicate_succ, List.replicate_zero, List.set_cons_zero, List.set_cons_succ, List.getElem?_cons_zero, List.getElem?_cons_succ, List.drop_zero, List.drop_succ_cons, List.take_succ_cons, List.take_nil, Option.getD_some, List.length_cons, List.length_nil, Nat.reduceAdd, Nat.reduceLeDiff, Nat.zero_add, bin_lss, if_true, if_false, Bool.false_eq_true, decide_false, hlt', hu.len]
    exact gc_same rfl
set_option maxRecDepth 20000 in
set_option maxHeartbeats 16000000 in
theorem s53_bad (hu : L3 A u rs) (hP : W Q) (k c : Int) (hl : rs.length ≤ 1000000) (hbad : ¬ chE Q rs k c = 0) : ACalls Try.prog 53 [.agg [I Q, u], I k, I c] A (.tuple [.agg [I 0, .nilS], I (chE Q rs k c)]) A := by
  refine acalls hmix Try.func53 (by kernel_rfl) t53 3 rfl (by decide) ?_
  dsimp only [m53]
  simp (maxSteps := 4000000) -implicitDefEqProofs -dsimp (disch := omega) only [↓AW_ops, ↓AW_seq, ↓AOps_nil, ↓AOps_pu, ↓AOps_ha, ↓AOps_call, on_some, extK_app, ↓then_normal, pval, hval, rd_S, rd_C, put_S, chkd, isAdr, bgot, AV.cells?, splice, partA, fillA, repl, eq_self, List.replicate_succ, List.replicate_zero, List.set_cons_zero, List.set_cons_succ, List.getElem?_cons_zero, List.getElem?_cons_succ, List.drop_zero, List.drop_succ_cons, List.drop_nil, List.take_zero, List.take_succ_cons, List.take_nil, Option.getD_some, map_c, map_n, List.length_cons, List.length_nil, Nat.reduceAdd, Nat.reduceSub, Nat.reduceLeDiff, Nat.reduceEqDiff, Nat.zero_add, List.cons_append, List.nil_append, List.append_nil, if_true, if_false, Bool.false_eq_true, and_true, ↓AW_ops2, hu.len, List.replicate_zero, repl]
  have hpA := pre_app A [AObj.cells true [I k]]
  have hE : (if vE Q rs = 0 then (if notOf (rs.length : Int) [k] = true then 4 else 0) else vE Q rs) = nE Q rs [k] := rfl
  have hp2 : A <+: A ++ [AObj.cells true [I k]] ++ [AObj.cells true [I (vE Q rs), I (if notOf (rs.length : Int) [k] = true then 4 else 0)]] := hpA.trans (pre_app _ _)
  refine ⟨?_, ?_⟩
  · refine CallK.of (s28 hu hP) ?_
    simp (maxSteps := 4000000) -implicitDefEqProofs -dsimp (disch := omega) only [↓AOps_pu, ↓AOps_ha, ↓AOps_call, on_some, extK_app, extK_same, pval, hval, rd_S, put_S, chkd, isAdr, bgot, AV.cells?, splice, partA, fillA, repl, eq_self, List.replicate_succ, List.replicate_zero, List.set_cons_zero, List.set_cons_succ, List.getElem?_cons_zero, List.getElem?_cons_succ, List.drop_zero, List.drop_succ_cons, List.drop_nil, List.take_zero, List.take_succ_cons, List.take_nil, Option.getD_some, map_c, map_n, List.length_cons, List.length_nil, Nat.reduceAdd, Nat.reduceSub, Nat.reduceLeDiff, Nat.zero_add, List.cons_append, List.nil_append, List.append_nil, if_true, if_false, Bool.false_eq_true, and_true, hu.len, List.replicate_zero, repl]
    refine CallK.of (s58 (L1_one A k) (by simp) (c := rs.length) (by omega)) ?_
    simp (maxSteps := 4000000) -implicitDefEqProofs -dsimp (disch := omega) only [↓AOps_ha, ↓AOps_call, on_some, extK_app, extK_same, hval, rd_S, put_S, AV.cells?, splice, fillA, repl, eq_self, List.replicate_succ, List.replicate_zero, List.set_cons_zero, List.set_cons_succ, List.getElem?_cons_zero, List.getElem?_cons_succ, List.drop_zero, List.drop_succ_cons, List.drop_nil, List.take_zero, List.take_succ_cons, Option.getD_some, map_c, map_n, List.length_cons, List.length_nil, Nat.reduceAdd, Nat.reduceSub, Nat.reduceLeDiff, Nat.zero_add, List.cons_append, List.nil_append, List.append_nil, if_true, and_true, List.replicate_zero, repl]
    refine CallK.of (s57 (L1_two _ _ _) (by simp)) ?_
    rw [orE_v, hE]
    generalize A ++ [AObj.cells true [I k]] ++ [AObj.cells true [I (vE Q rs), I (if notOf (rs.length : Int) [k] = true then 4 else 0)]] = A2 at hp2 ⊢
    by_cases h0 : nE Q rs [k] = 0
    case neg =>
      rw [chE_n h0]
      simp (maxSteps := 4000000) -implicitDefEqProofs -dsimp (disch := omega) only [↓AW_ops, ↓AW_seq, ↓AW_cond, ↓AW_ret, ↓AOps_nil, ↓AOps_pu, on_some, extK_same, condB_t, ↓then_normal, ↓then_ret, ↓Fin_ret, pval, rd_S, rd_C, put_S, resV, resL, chkd, bput, bgot, AV.cells?, splice, partA, fillA, eq_self, List.replicate_succ, List.replicate_zero, List.set_cons_zero, List.set_cons_succ, List.getElem?_cons_zero, List.getElem?_cons_succ, List.drop_zero, List.drop_succ_cons, List.drop_nil, List.take_zero, List.take_succ_cons, List.take_nil, Option.getD_some, Option.map_some, map_n, List.length_cons, List.length_nil, Nat.reduceAdd, Nat.reduceSub, Nat.reduceLeDiff, Nat.reduceEqDiff, Nat.zero_add, List.cons_append, List.nil_append, List.append_nil, bin_neq, if_true, if_false, decide_true, ne_eq, not_true_eq_false, not_false_eq_true, h0]
      exact gc_val hp2 rfl
    have h1 : ¬ (0 ≤ c ∧ c ≤ 99) := fun h => hbad (chE_0.2 ⟨h0, h⟩)
    rw [h0]
    simp (maxSteps := 4000000) -implicitDefEqProofs -dsimp (disch := omega) only [↓AW_skip, ↓AW_ops, ↓AW_seq, ↓AW_cond, ↓AOps_nil, ↓AOps_pu, ↓AOps_call, on_some, extK_same, condB_f, ↓then_normal, pval, rd_S, rd_C, put_S, eq_self, List.replicate_succ, List.replicate_zero, List.set_cons_zero, List.set_cons_succ, List.getElem?_cons_zero, List.getElem?_cons_succ, Option.getD_some, map_c, map_n, Nat.reduceSub, List.cons_append, List.nil_append, bin_neq, decide_false, not_true_eq_false]
    refine CallK.of (s83 c A2) ?_
    rw [if_neg h1, chE_1 h0 h1]
    simp (maxSteps := 4000000) -implicitDefEqProofs -dsimp (disch := omega) only [↓AW_ops, ↓AW_seq, ↓AW_cond, ↓AW_ret, ↓AOps_nil, ↓AOps_pu, on_some, extK_same, condB_t, ↓then_normal, ↓then_ret, ↓Fin_ret, pval, rd_S, rd_C, put_S, resV, resL, chkd, bput, bgot, AV.cells?, splice, partA, fillA, eq_self, List.replicate_succ, List.replicate_zero, List.set_cons_zero, List.set_cons_succ, List.getElem?_cons_zero, List.getElem?_cons_succ, List.drop_zero, List.drop_succ_cons, List.drop_nil, List.take_zero, List.take_succ_cons, List.take_nil, Option.getD_some, Option.map_some, map_n, List.length_cons, List.length_nil, Nat.reduceAdd, Nat.reduceSub, Nat.reduceLeDiff, Nat.reduceEqDiff, Nat.zero_add, List.cons_append, List.nil_append, List.append_nil, bin_neq, if_true, if_false, decide_true, ne_eq, not_true_eq_false, not_false_eq_true, Int.reduceEq]
    exact gc_val hp2 rfl
  · refine CallK.of (s28 (hu.mono hpA) hP) ?_
    simp (maxSteps := 4000000) -implicitDefEqProofs -dsimp (disch := omega) only [↓AOps_call, extK_same, rd_S, put_S, List.replicate_succ, List.replicate_zero, List.set_cons_zero, List.set_cons_succ, List.getElem?_cons_zero, List.getElem?_cons_succ, Option.getD_some, map_c, map_n, Nat.reduceSub, List.cons_append, List.nil_append, List.replicate_zero]
    refine CallK.of (s58 (L1_one A k) (by simp) (c := rs.length) (by omega)) ?_
    simp (maxSteps := 4000000) -implicitDefEqProofs -dsimp (disch := omega) only [↓AOps_ha, ↓AOps_call, on_some, extK_app, extK_same, hval, rd_S, put_S, AV.cells?, splice, fillA, repl, eq_self, List.replicate_succ, List.replicate_zero, List.set_cons_zero, List.set_cons_succ, List.getElem?_cons_zero, List.getElem?_cons_succ, List.drop_zero, List.drop_succ_cons, List.drop_nil, List.take_zero, List.take_succ_cons, Option.getD_some, map_c, map_n, List.length_cons, List.length_nil, Nat.reduceAdd, Nat.reduceSub, Nat.reduceLeDiff, Nat.zero_add, List.cons_append, List.nil_append, List.append_nil, if_true, and_true, List.replicate_zero, repl]
    refine CallK.of (s57 (L1_two _ _ _) (by simp)) ?_
    rw [orE_v, hE]
    generalize A ++ [AObj.cells true [I k]] ++ [AObj.cells true [I (vE Q rs), I (if notOf (rs.length : Int) [k] = true then 4 else 0)]] = A2 at hp2 ⊢
    by_cases h0 : nE Q rs [k] = 0
    case neg =>
      rw [chE_n h0]
      simp (maxSteps := 4000000) -implicitDefEqProofs -dsimp (disch := omega) only [↓AW_ops, ↓AW_seq, ↓AW_cond, ↓AW_ret, ↓AOps_nil, ↓AOps_pu, on_some, extK_same, condB_t, ↓then_normal, ↓then_ret, ↓Fin_ret, pval, rd_S, rd_C, put_S, resV, resL, chkd, bput, bgot, AV.cells?, splice, partA, fillA, eq_self, List.replicate_succ, List.replicate_zero, List.set_cons_zero, List.set_cons_succ, List.getElem?_cons_zero, List.getElem?_cons_succ, List.drop_zero, List.drop_succ_cons, List.drop_nil, List.take_zero, List.take_succ_cons, List.take_nil, Option.getD_some, Option.map_some, map_n, List.length_cons, List.length_nil, Nat.reduceAdd, Nat.reduceSub, Nat.reduceLeDiff, Nat.reduceEqDiff, Nat.zero_add, List.cons_append, List.nil_append, List.append_nil, bin_neq, if_true, if_false, decide_true, ne_eq, not_true_eq_false, not_false_eq_true, h0]
      exact gc_val hp2 rfl
    have h1 : ¬ (0 ≤ c ∧ c ≤ 99) := fun h => hbad (chE_0.2 ⟨h0, h⟩)
    rw [h0]
    simp (maxSteps := 4000000) -implicitDefEqProofs -dsimp (disch := omega) only [↓AW_skip, ↓AW_ops, ↓AW_seq, ↓AW_cond, ↓AOps_nil, ↓AOps_pu, ↓AOps_call, on_some, extK_same, condB_f, ↓then_normal, pval, rd_S, rd_C, put_S, eq_self, List.replicate_succ, List.replicate_zero, List.set_cons_zero, List.set_cons_succ, List.getElem?_cons_zero, List.getElem?_cons_succ, Option.getD_some, map_c, map_n, Nat.reduceSub, List.cons_append, List.nil_append, bin_neq, decide_false, not_true_eq_false]
    refine CallK.of (s83 c A2) ?_
    rw [if_neg h1, chE_1 h0 h1]
    simp (maxSteps := 4000000) -implicitDefEqProofs -dsimp (disch := omega) only [↓AW_ops, ↓AW_seq, ↓AW_cond, ↓AW_ret, ↓AOps_nil, ↓AOps_pu, on_some, extK_same, condB_t, ↓then_normal, ↓then_ret, ↓Fin_ret, pval, rd_S, rd_C, put_S, resV, resL, chkd, bput, bgot, AV.cells?, splice, partA, fillA, eq_self, List.replicate_succ, List.replicate_zero, List.set_cons_zero, List.set_cons_succ, List.getElem?_cons_zero, List.getElem?_cons_succ, List.drop_zero, List.drop_succ_cons, List.drop_nil, List.take_zero, List.take_succ_cons, List.take_nil, Option.getD_some, Option.map_some, map_n, List.length_cons, List.length_nil, Nat.reduceAdd, Nat.reduceSub, Nat.reduceLeDiff, Nat.reduceEqDiff, Nat.zero_add, List.cons_append, List.nil_append, List.append_nil, bin_neq, if_true, if_false, decide_true, ne_eq, not_true_eq_false, not_false_eq_true, Int.reduceEq]
    exact gc_val hp2 rfl
set_option maxRecDepth 20000 in
set_option maxHeartbeats 16000000 in
theorem s53_ok (hu : L3 A u rs) (hP : W Q) (k c : Int) (hl : rs.length ≤ 1000000) (hok : chE Q rs k c = 0) : ACalls Try.prog 53 [.agg [I Q, u], I k, I c] A (.tuple [.agg [I Q, outV 3 A rs.length], I 0]) (outH A ((chR rs k c).flatMap e3) rs.length) := by
  refine acalls hmix Try.func53 (by kernel_rfl) t53 3 rfl (by decide) ?_
  dsimp only [m53]
  simp (maxSteps := 4000000) -implicitDefEqProofs -dsimp (disch := omega) only [↓AW_ops, ↓AW_seq, ↓AOps_nil, ↓AOps_pu, ↓AOps_ha, ↓AOps_call, on_some, extK_app, ↓then_normal, pval, hval, rd_S, rd_C, put_S, chkd, isAdr, bgot, AV.cells?, splice, partA, fillA, repl, eq_self, List.replicate_succ, List.replicate_zero, List.set_cons_zero, List.set_cons_succ, List.getElem?_cons_zero, List.getElem?_cons_succ, List.drop_zero, List.drop_succ_cons, List.drop_nil, List.take_zero, List.take_succ_cons, List.take_nil, Option.getD_some, map_c, map_n, List.length_cons, List.length_nil, Nat.reduceAdd, Nat.reduceSub, Nat.reduceLeDiff, Nat.reduceEqDiff, Nat.zero_add, List.cons_append, List.nil_append, List.append_nil, if_true, if_false, Bool.false_eq_true, and_true, ↓AW_ops2, hu.len, List.replicate_zero, repl]
  have hpA := pre_app A [AObj.cells true [I k]]
  have hE : (if vE Q rs = 0 then (if notOf (rs.length : Int) [k] = true then 4 else 0) else vE Q rs) = nE Q rs [k] := rfl
  have hp2 : A <+: A ++ [AObj.cells true [I k]] ++ [AObj.cells true [I (vE Q rs), I (if notOf (rs.length : Int) [k] = true then 4 else 0)]] := hpA.trans (pre_app _ _)
  obtain ⟨h0, h1⟩ := chE_0.1 hok
  obtain ⟨hn, hk⟩ := nE_1 h0
  refine ⟨?_, ?_⟩
  · refine CallK.of (s28 hu hP) ?_
    simp (maxSteps := 4000000) -implicitDefEqProofs -dsimp (disch := omega) only [↓AOps_pu, ↓AOps_ha, ↓AOps_call, on_some, extK_app, extK_same, pval, hval, rd_S, put_S, chkd, isAdr, bgot, AV.cells?, splice, partA, fillA, repl, eq_self, List.replicate_succ, List.replicate_zero, List.set_cons_zero, List.set_cons_succ, List.getElem?_cons_zero, List.getElem?_cons_succ, List.drop_zero, List.drop_succ_cons, List.drop_nil, List.take_zero, List.take_succ_cons, List.take_nil, Option.getD_some, map_c, map_n, List.length_cons, List.length_nil, Nat.reduceAdd, Nat.reduceSub, Nat.reduceLeDiff, Nat.zero_add, List.cons_append, List.nil_append, List.append_nil, if_true, if_false, Bool.false_eq_true, and_true, hu.len, List.replicate_zero, repl]
    refine CallK.of (s58 (L1_one A k) (by simp) (c := rs.length) (by omega)) ?_
    simp (maxSteps := 4000000) -implicitDefEqProofs -dsimp (disch := omega) only [↓AOps_ha, ↓AOps_call, on_some, extK_app, extK_same, hval, rd_S, put_S, AV.cells?, splice, fillA, repl, eq_self, List.replicate_succ, List.replicate_zero, List.set_cons_zero, List.set_cons_succ, List.getElem?_cons_zero, List.getElem?_cons_succ, List.drop_zero, List.drop_succ_cons, List.drop_nil, List.take_zero, List.take_succ_cons, Option.getD_some, map_c, map_n, List.length_cons, List.length_nil, Nat.reduceAdd, Nat.reduceSub, Nat.reduceLeDiff, Nat.zero_add, List.cons_append, List.nil_append, List.append_nil, if_true, and_true, List.replicate_zero, repl]
    refine CallK.of (s57 (L1_two _ _ _) (by simp)) ?_
    rw [orE_v, hE]
    generalize A ++ [AObj.cells true [I k]] ++ [AObj.cells true [I (vE Q rs), I (if notOf (rs.length : Int) [k] = true then 4 else 0)]] = A2 at hp2 ⊢
    rw [h0]
    simp (maxSteps := 4000000) -implicitDefEqProofs -dsimp (disch := omega) only [↓AW_skip, ↓AW_ops, ↓AW_seq, ↓AW_cond, ↓AOps_nil, ↓AOps_pu, ↓AOps_call, on_some, extK_same, condB_f, ↓then_normal, pval, rd_S, rd_C, put_S, eq_self, List.replicate_succ, List.replicate_zero, List.set_cons_zero, List.set_cons_succ, List.getElem?_cons_zero, List.getElem?_cons_succ, Option.getD_some, map_c, map_n, Nat.reduceSub, List.cons_append, List.nil_append, bin_neq, decide_false, not_true_eq_false]
    refine CallK.of (s83 c A2) ?_
    rw [if_pos h1]
    simp (maxSteps := 4000000) -implicitDefEqProofs -dsimp (disch := omega) only [↓AW_skip, ↓AW_ops, ↓AW_seq, ↓AW_cond, ↓AOps_nil, ↓AOps_pu, ↓AOps_call, on_some, extK_same, condB_f, ↓then_normal, pval, rd_S, rd_C, put_S, chkd, isAdr, bgot, AV.cells?, partA, eq_self, List.replicate_succ, List.replicate_zero, List.set_cons_zero, List.set_cons_succ, List.getElem?_cons_zero, List.getElem?_cons_succ, List.drop_zero, List.drop_succ_cons, List.take_zero, List.take_succ_cons, List.take_nil, Option.getD_some, map_c, map_n, List.length_cons, List.length_nil, Nat.reduceAdd, Nat.reduceSub, Nat.reduceLeDiff, Nat.zero_add, List.cons_append, List.nil_append, bin_neq, if_true, if_false, Bool.false_eq_true, decide_false, not_true_eq_false]
    refine CallK.of (s94 (hu.mono hp2) (by omega) hl) ?_
    have ho := OL.new_mk e3_len (A2 ++ [AObj.cells true []]) rs false
    have q1 : A2 ++ [AObj.cells true []] ++ [AObj.cells true (rs.flatMap e3)] = A2 ++ [AObj.cells true [], AObj.cells true (rs.flatMap e3)] := by simp
    have q2 : (A2 ++ [AObj.cells true []]).length = A2.length + 1 := by simp
    rw [q1, q2] at ho
    have ho := OL_base' (hp2.trans (pre_app A2 [AObj.cells true []])) ho
    have hst := ch_st ho hk c
    have hii := ho.ls.idxI (k := .i64) hk.1 (show k < (rs.length : Int) by omega)
    have ho3 := OL_setAll ho (chR rs k c) (chR_len rs k c)
    have hac := ho3.acc (by rw [chR_len]; omega)
    rw [chR_len] at hac
    have hgc := gcN hac flat_e3 Q 0
    rw [chR_len] at hgc
    simp (maxSteps := 4000000) -implicitDefEqProofs -dsimp (disch := omega) only [↓AW_ops, ↓AW_seq, ↓AW_ret, ↓AOps_nil, ↓AOps_pu, ↓AOps_ha, on_some, extK_false, extK_app, ↓then_normal, ↓Fin_ret, pval, hval_st, rd_S, rd_C, put_S, putS_none, resV, resL, chkd, isAdr, bput, bgot, cells_agg, cells_int, cells_sl, splice, partA, fillA, eq_self, List.replicate_succ, List.replicate_zero, List.set_cons_zero, List.set_cons_succ, List.getElem?_cons_zero, List.getElem?_cons_succ, List.drop_zero, List.drop_succ_cons, List.drop_nil, List.take_zero, List.take_succ_cons, List.take_nil, Option.getD_some, Option.map_some, map_c, map_n, List.length_cons, List.length_nil, Nat.reduceAdd, Nat.reduceSub, Nat.reduceLeDiff, Nat.reduceEqDiff, Nat.zero_add, List.cons_append, List.nil_append, List.append_nil, if_true, if_false, Bool.false_eq_true, and_true, ne_eq, not_true_eq_false, hii, hst]
    exact hgc
  · refine CallK.of (s28 (hu.mono hpA) hP) ?_
    simp (maxSteps := 4000000) -implicitDefEqProofs -dsimp (disch := omega) only [↓AOps_call, extK_same, rd_S, put_S, List.replicate_succ, List.replicate_zero, List.set_cons_zero, List.set_cons_succ, List.getElem?_cons_zero, List.getElem?_cons_succ, Option.getD_some, map_c, map_n, Nat.reduceSub, List.cons_append, List.nil_append, List.replicate_zero]
    refine CallK.of (s58 (L1_one A k) (by simp) (c := rs.length) (by omega)) ?_
    simp (maxSteps := 4000000) -implicitDefEqProofs -dsimp (disch := omega) only [↓AOps_ha, ↓AOps_call, on_some, extK_app, extK_same, hval, rd_S, put_S, AV.cells?, splice, fillA, repl, eq_self, List.replicate_succ, List.replicate_zero, List.set_cons_zero, List.set_cons_succ, List.getElem?_cons_zero, List.getElem?_cons_succ, List.drop_zero, List.drop_succ_cons, List.drop_nil, List.take_zero, List.take_succ_cons, Option.getD_some, map_c, map_n, List.length_cons, List.length_nil, Nat.reduceAdd, Nat.reduceSub, Nat.reduceLeDiff, Nat.zero_add, List.cons_append, List.nil_append, List.append_nil, if_true, and_true, List.replicate_zero, repl]
    refine CallK.of (s57 (L1_two _ _ _) (by simp)) ?_
    rw [orE_v, hE]
    generalize A ++ [AObj.cells true [I k]] ++ [AObj.cells true [I (vE Q rs), I (if notOf (rs.length : Int) [k] = true then 4 else 0)]] = A2 at hp2 ⊢
    rw [h0]
    simp (maxSteps := 4000000) -implicitDefEqProofs -dsimp (disch := omega) only [↓AW_skip, ↓AW_ops, ↓AW_seq, ↓AW_cond, ↓AOps_nil, ↓AOps_pu, ↓AOps_call, on_some, extK_same, condB_f, ↓then_normal, pval, rd_S, rd_C, put_S, eq_self, List.replicate_succ, List.replicate_zero, List.set_cons_zero, List.set_cons_succ, List.getElem?_cons_zero, List.getElem?_cons_succ, Option.getD_some, map_c, map_n, Nat.reduceSub, List.cons_append, List.nil_append, bin_neq, decide_false, not_true_eq_false]
    refine CallK.of (s83 c A2) ?_
    rw [if_pos h1]
    simp (maxSteps := 4000000) -implicitDefEqProofs -dsimp (disch := omega) only [↓AW_skip, ↓AW_ops, ↓AW_seq, ↓AW_cond, ↓AOps_nil, ↓AOps_pu, ↓AOps_call, on_some, extK_same, condB_f, ↓then_normal, pval, rd_S, rd_C, put_S, chkd, isAdr, bgot, AV.cells?, partA, eq_self, List.replicate_succ, List.replicate_zero, List.set_cons_zero, List.set_cons_succ, List.getElem?_cons_zero, List.getElem?_cons_succ, List.drop_zero, List.drop_succ_cons, List.take_zero, List.take_succ_cons, List.take_nil, Option.getD_some, map_c, map_n, List.length_cons, List.length_nil, Nat.reduceAdd, Nat.reduceSub, Nat.reduceLeDiff, Nat.zero_add, List.cons_append, List.nil_append, bin_neq, if_true, if_false, Bool.false_eq_true, decide_false, not_true_eq_false]
    refine CallK.of (s94 (hu.mono hp2) (by omega) hl) ?_
    have ho := OL.new_mk e3_len (A2 ++ [AObj.cells true []]) rs false
    have q1 : A2 ++ [AObj.cells true []] ++ [AObj.cells true (rs.flatMap e3)] = A2 ++ [AObj.cells true [], AObj.cells true (rs.flatMap e3)] := by simp
    have q2 : (A2 ++ [AObj.cells true []]).length = A2.length + 1 := by simp
    rw [q1, q2] at ho
    have ho := OL_base' (hp2.trans (pre_app A2 [AObj.cells true []])) ho
    have hst := ch_st ho hk c
    have hii := ho.ls.idxI (k := .i64) hk.1 (show k < (rs.length : Int) by omega)
    have ho3 := OL_setAll ho (chR rs k c) (chR_len rs k c)
    have hac := ho3.acc (by rw [chR_len]; omega)
    rw [chR_len] at hac
    have hgc := gcN hac flat_e3 Q 0
    rw [chR_len] at hgc
    simp (maxSteps := 4000000) -implicitDefEqProofs -dsimp (disch := omega) only [↓AW_ops, ↓AW_seq, ↓AW_ret, ↓AOps_nil, ↓AOps_pu, ↓AOps_ha, on_some, extK_false, extK_app, ↓then_normal, ↓Fin_ret, pval, hval_st, rd_S, rd_C, put_S, putS_none, resV, resL, chkd, isAdr, bput, bgot, cells_agg, cells_int, cells_sl, splice, partA, fillA, eq_self, List.replicate_succ, List.replicate_zero, List.set_cons_zero, List.set_cons_succ, List.getElem?_cons_zero, List.getElem?_cons_succ, List.drop_zero, List.drop_succ_cons, List.drop_nil, List.take_zero, List.take_succ_cons, List.take_nil, Option.getD_some, Option.map_some, map_c, map_n, List.length_cons, List.length_nil, Nat.reduceAdd, Nat.reduceSub, Nat.reduceLeDiff, Nat.reduceEqDiff, Nat.zero_add, List.cons_append, List.nil_append, List.append_nil, if_true, if_false, Bool.false_eq_true, and_true, ne_eq, not_true_eq_false, hii, hst]
    exact hgc
theorem s53 (hu : L3 A u rs) (hP : W Q) (k c : Int) (hl : rs.length ≤ 1000000) : ∃ q y H, ACalls Try.prog 53 [.agg [I Q, u], I k, I c] A (.tuple [.agg [I q, y], I (chE Q rs k c)]) H ∧ A <+: H ∧ CHG Q rs k c A H q y := by
  by_cases h : chE Q rs k c = 0
  · have h1 := s53_ok hu hP k c hl h
    obtain ⟨hn, hk⟩ := nE_1 (chE_0.1 h).1
    have ho := OL_out e3_len A (chR rs k c) (by rw [chR_len]; omega)
    rw [chR_len] at ho
    rw [h]
    exact ⟨Q, _, _, h1, ho.pre, .inl ⟨h, rfl, _, ho⟩⟩
  · exact ⟨0, .nilS, A, s53_bad hu hP k c hl h, List.prefix_refl _, .inr ⟨h, rfl, rfl⟩⟩
end
end Go.Proofs.Ytkgfcdpckfhknaa

namespace Go.Proofs.Ytkgfcdpckfhknaa
open Go Go.Eng
section
variable {Q : Int} {rs qs : List Rd} {ks : List Int} {u v : AV} {A : AHeap} {k c : Int}
theorem wr_st {A H : AHeap} {n : Nat} {y : AV} {zs : List Rd} (ho : OL 3 e3 A H n y zs) {i : Nat} (hi : i < zs.length) : stA 1 (.ptr (nm y) (of y + i * 3 + 2)) (I (-1)) H = some (H.set n (.cells true ((zs.set i (zs[i].1, zs[i].2.1, -1)).flatMap e3))) :=
  OL_stF ho hi 2 1 (I (-1)) [I (-1)] (zs[i].1, zs[i].2.1, -1) rfl rfl (by omega) rfl
/-- What ranges and shares say with another cost. -/
theorem ch_facts (h : chE Q rs k c = 0) : nE Q rs [k] = 0 ∧ nE Q (chR rs k c) [k] = 0 ∧ vE Q (chR rs k c) = 0 ∧ rgA Q (chR rs k c) k = rgA Q rs k ∧ (rgJ Q (chR rs k c) k ↔ rgJ Q rs k) ∧ (rgJ Q rs k → (k ∈ neL Q (chR rs k c) ↔ rgA Q rs k < c)) := by
  obtain ⟨h0, hc⟩ := chE_0.1 h
  obtain ⟨hn, hk⟩ := nE_1 h0
  obtain ⟨P, rfl⟩ := hn.nat
  have hnC := chR_net hn hk hc
  have hkC : 0 ≤ k ∧ k ≤ ((chR rs k c).length : Int) - 1 := by rw [chR_len]; exact hk
  have hE : nE P (chR rs k c) [k] = 0 := by
    unfold nE
    rw [if_pos (vE_0.2 hnC), if_neg (notOf_of (fun i hi => by rw [List.mem_singleton.1 hi]; exact hkC))]
  have hJ : rgJ P (chR rs k c) k ↔ rgJ P rs k := by
    unfold rgJ
    rw [Int.toNat_natCast, chR_jbl hk]
    exact ⟨fun g => ⟨h0, g.2⟩, fun g => ⟨hE, g.2⟩⟩
  have hA : rgA P (chR rs k c) k = rgA P rs k := by
    unfold rgA
    by_cases g : rgJ P rs k
    · rw [if_pos g, if_pos (hJ.2 g), chR_rg hk]
    · rw [if_neg g, if_neg (fun g2 => g (hJ.1 g2))]
  refine ⟨h0, hE, vE_0.2 hnC, hA, hJ, fun g => ?_⟩
  have g2 : Jbl P rs := by have := g.2; rwa [Int.toNat_natCast] at this
  have hL : neL P (chR rs k c) = (nums (chR rs k c)).filter (fun i => decide (nev P (chR rs k c) i)) := if_pos (vE_0.2 hnC)
  have hA2 : rgA P rs k = rgC rs k := if_pos g
  have hw : wct (chR rs k c) k = c := by unfold wct; rw [chR_k hk c]
  rw [hL, List.mem_filter, mem_plc, decide_eq_true_eq, nev_rg hnC ((chR_jbl hk).2 g2) hkC, chR_rg hk, hw, hA2]
  exact ⟨fun g => g.2, fun g => ⟨by omega, g⟩⟩
set_option maxRecDepth 40000 in
set_option maxHeartbeats 32000000 in
theorem s15 (hu : L3 A u rs) (hP : W Q) (k c : Int) : ACalls Try.prog 15 [.agg [I Q, u], .agg [I k, I c]] A (B true) A := by
  refine acalls hmix Try.func15 (by kernel_rfl) t15 2 rfl (by decide) ?_
  dsimp only [m15]
  simp (maxSteps := 4000000) -implicitDefEqProofs -dsimp (disch := omega) only [↓AW_ops, ↓AW_seq, ↓AOps_nil, ↓AOps_pu, ↓AOps_call, on_some, ↓then_normal, pval, rd_S, rd_C, put_S, chkd, bgot, AV.cells?, partA, eq_self, List.replicate_succ, List.replicate_zero, List.set_cons_zero, List.set_cons_succ, List.getElem?_cons_zero, List.getElem?_cons_succ, List.drop_zero, List.take_succ_cons, List.take_nil, Option.getD_some, map_c, map_n, List.length_cons, List.length_nil, Nat.reduceAdd, Nat.reduceSub, Nat.reduceLeDiff, Nat.reduceEqDiff, Nat.zero_add, List.cons_append, List.nil_append, if_true, if_false]
  refine CallK.of (s17 hu Q) ?_
  by_cases h1 : (100 : Int) < rs.length
  · simp (maxSteps := 4000000) -implicitDefEqProofs -dsimp (disch := omega) only [↓AW_ops, ↓AW_seq, ↓AW_cond, ↓AOps_nil, ↓AOps_call, extK_same, condB_t, ↓then_normal, rd_S, put_S, List.replicate_succ, List.replicate_zero, List.set_cons_zero, List.set_cons_succ, List.getElem?_cons_zero, List.getElem?_cons_succ, Option.getD_some, map_n, Nat.reduceSub, List.cons_append, List.nil_append, decide_true, h1]
    refine CallK.of (known A) ?_
    simp (maxSteps := 4000000) -implicitDefEqProofs -dsimp (disch := omega) only [↓AW_ret, ↓AOps_nil, ↓AOps_pu, on_some, extK_same, ↓then_normal, ↓then_ret, ↓Fin_ret, pval, rd_S, put_S, resV, resL, List.replicate_succ, List.replicate_zero, List.set_cons_zero, List.set_cons_succ, List.getElem?_cons_zero, List.getElem?_cons_succ, Option.getD_some, Nat.reduceSub, List.cons_append, List.nil_append]
    exact gc_same rfl
  have hl : rs.length ≤ 1000000 := by omega
  simp (maxSteps := 4000000) -implicitDefEqProofs -dsimp (disch := omega) only [↓AW_skip, ↓AW_ops, ↓AW_seq, ↓AW_cond, ↓AOps_nil, ↓AOps_pu, ↓AOps_call, on_some, extK_same, condB_f, ↓then_normal, pval, rd_S, put_S, chkd, bgot, partA, eq_self, List.replicate_succ, List.replicate_zero, List.set_cons_zero, List.set_cons_succ, List.getElem?_cons_zero, List.getElem?_cons_succ, List.drop_zero, List.take_succ_cons, List.take_nil, Option.getD_some, map_c, map_n, List.length_cons, List.length_nil, Nat.reduceAdd, Nat.reduceSub, Nat.reduceLeDiff, Nat.reduceEqDiff, Nat.zero_add, List.cons_append, List.nil_append, if_true, if_false, decide_false, h1]
  obtain ⟨yo, H1, c1, no, ho⟩ := s52 (Q := Q) hu hl
  have hco := Ls_cells ho.ls
  have p1 := ho.pre
  have hLo := ho.ls
  refine CallK.of c1 ?_
  simp (maxSteps := 4000000) -implicitDefEqProofs -dsimp (disch := omega) only [↓AW_ops, ↓AW_seq, ↓AOps_nil, ↓AOps_pu, ↓AOps_call, on_some, extK_false, ↓then_normal, pval, rd_S, rd_C, put_S, chkd, isAdr, bput, bgot, cells_agg, splice, partA, eq_self, List.replicate_succ, List.replicate_zero, List.set_cons_zero, List.set_cons_succ, List.getElem?_cons_zero, List.getElem?_cons_succ, List.drop_zero, List.drop_succ_cons, List.drop_nil, List.take_zero, List.take_succ_cons, List.take_nil, Option.getD_some, map_c, map_n, List.length_cons, List.length_nil, Nat.reduceAdd, Nat.reduceSub, Nat.reduceLeDiff, Nat.reduceEqDiff, Nat.zero_add, List.cons_append, List.nil_append, List.append_nil, if_true, if_false, Bool.false_eq_true, ne_eq, not_true_eq_false]
  obtain ⟨q, ya, H2, c2, p2, hCa⟩ := s53 hLo hP k c hl
  refine CallK.of c2 ?_
  have huB := hu.mono (p1.trans p2)
  obtain ⟨q', yb, H3, c3, p3, hCb⟩ := s54 huB hP k c
  have p13 := p2.trans p3
  by_cases hE : chE Q rs k c = 0
  case neg =>
    rcases hCa with ⟨h, _⟩ | ⟨_, rfl, rfl⟩
    · exact absurd h hE
    rcases hCb with ⟨h, _⟩ | ⟨_, rfl, rfl⟩
    · exact absurd h hE
    simp (maxSteps := 4000000) -implicitDefEqProofs -dsimp (disch := omega) only [↓AW_ops, ↓AW_seq, ↓AOps_nil, ↓AOps_pu, ↓AOps_call, on_some, extK_false, ↓then_normal, pval, rd_S, rd_C, put_S, chkd, isAdr, bput, bgot, cells_agg, splice, partA, eq_self, List.replicate_succ, List.replicate_zero, List.set_cons_zero, List.set_cons_succ, List.getElem?_cons_zero, List.getElem?_cons_succ, List.drop_zero, List.drop_succ_cons, List.drop_nil, List.take_zero, List.take_succ_cons, List.take_nil, Option.getD_some, map_c, map_n, List.length_cons, List.length_nil, Nat.reduceAdd, Nat.reduceSub, Nat.reduceLeDiff, Nat.reduceEqDiff, Nat.zero_add, List.cons_append, List.nil_append, List.append_nil, if_true, if_false, Bool.false_eq_true, ne_eq, not_true_eq_false]
    refine CallK.of c3 ?_
    simp (maxSteps := 4000000) -implicitDefEqProofs -dsimp (disch := omega) only [↓AW_ops, ↓AW_seq, ↓AOps_nil, ↓AOps_pu, ↓AOps_call, ↓AOps_guard, on_some, extK_false, guardB_ff, ↓then_normal, pval, rd_S, rd_C, put_S, chkd, bput, bgot, cells_agg, splice, partA, eq_self, List.replicate_succ, List.replicate_zero, List.set_cons_zero, List.set_cons_succ, List.getElem?_cons_zero, List.getElem?_cons_succ, List.drop_zero, List.drop_succ_cons, List.drop_nil, List.take_zero, List.take_succ_cons, List.take_nil, Option.getD_some, map_c, map_n, List.length_cons, List.length_nil, Nat.reduceAdd, Nat.reduceSub, Nat.reduceLeDiff, Nat.reduceEqDiff, Nat.zero_add, List.cons_append, List.nil_append, List.append_nil, bin_neq, if_true, if_false, decide_false, ne_eq, not_true_eq_false]
    refine CallK.of (s55 (rs := []) (qs := []) ⟨e3_len, rfl⟩ ⟨e3_len, rfl⟩ (by simp)) ?_
    simp (maxSteps := 4000000) -implicitDefEqProofs -dsimp (disch := omega) only [↓AW_skip, ↓AW_ops, ↓AW_seq, ↓AW_cond, ↓AW_block, ↓AOps_nil, ↓AOps_pu, ↓AOps_guard, on_some, extK_same, guardB_ff, condB_f, ↓then_normal, pval, rd_S, rd_C, put_S, ↓AW_toLoop, eq_self, List.replicate_succ, List.replicate_zero, List.set_cons_zero, List.set_cons_succ, List.getElem?_cons_zero, List.getElem?_cons_succ, Option.getD_some, Nat.reduceSub, List.cons_append, List.nil_append, bin_eql, if_false, Bool.false_eq_true, Bool.not_true, decide_true, decide_false, and_true, hE]
    refine LoopK.by (α := Unit) 126 (fun _ => True) (fun _ => [(2, .agg [I Q, u]), (5, .agg [I Q, yo]), (6, .agg [I 0, .nilS]), (18, I 0)]) (fun _ => H3) (fun _ => 0) () trivial rfl (by simp [Has, rd_s]) rfl ?_
    rintro x _
    simp (maxSteps := 4000000) -implicitDefEqProofs -dsimp (disch := omega) only [↓AW_ops, ↓AW_seq, ↓AW_cond, ↓AW_exit, ↓AOps_nil, ↓AOps_pu, ↓AOps_call, on_some, condB_f, ↓then_normal, ↓then_exit, ↓inBlock_exit, pval, rd_S, put_S, chkd, isAdr, bgot, cells_agg, partA, eq_self, mk, List.foldl_cons, List.foldl_nil, List.replicate_succ, List.replicate_zero, List.set_cons_zero, List.set_cons_succ, List.getElem?_cons_zero, List.getElem?_cons_succ, List.drop_zero, List.drop_succ_cons, List.take_succ_cons, List.take_nil, Option.getD_some, map_c, map_n, List.length_cons, List.length_nil, Nat.reduceAdd, Nat.reduceLeDiff, Nat.reduceEqDiff, Nat.zero_add, bin_lss, if_true, if_false, Bool.false_eq_true, decide_false, Int.reduceLT, lenA]
    refine CallK.of (s55 (hLo.mono p13) (huB.mono p3) hl) ?_
    simp (maxSteps := 4000000) -implicitDefEqProofs -dsimp (disch := omega) only [↓AOps_pu, ↓AOps_call, ↓AOps_guard, on_some, extK_same, guardB_tt, pval, rd_S, put_S, eq_self, mk, List.foldl_cons, List.foldl_nil, List.replicate_succ, List.replicate_zero, List.set_cons_zero, List.set_cons_succ, List.getElem?_cons_zero, List.getElem?_cons_succ, Option.getD_some, map_n, decide_true, and_true]
    refine CallK.of (known H3) ?_
    simp (maxSteps := 4000000) -implicitDefEqProofs -dsimp (disch := omega) only [↓AW_ret, ↓AOps_nil, ↓AOps_pu, on_some, extK_same, ↓then_normal, ↓Fin_ret, pval, rd_S, rd_C, put_S, resV, resL, eq_self, mk, List.foldl_cons, List.foldl_nil, List.replicate_succ, List.replicate_zero, List.set_cons_zero, List.set_cons_succ, List.getElem?_cons_zero, List.getElem?_cons_succ, Option.getD_some, if_true, decide_true, and_true]
    exact gc_val (p1.trans p13) rfl
  rcases hCa with ⟨_, hqa, na, hoa⟩ | ⟨h, _⟩
  case inr => exact absurd hE h
  rcases hCb with ⟨_, hqb, nb, hob⟩ | ⟨h, _⟩
  case inr => exact absurd hE h
  rw [hE, hqb] at c3
  rw [hE, hqa]
  have hca := Ls_cells hoa.ls
  have hcb := Ls_cells hob.ls
  obtain ⟨f1, f2, f3, f4, f5, f6⟩ := ch_facts hE
  simp (maxSteps := 4000000) -implicitDefEqProofs -dsimp (disch := omega) only [↓AW_ops, ↓AW_seq, ↓AOps_nil, ↓AOps_pu, ↓AOps_call, on_some, extK_false, ↓then_normal, pval, rd_S, rd_C, put_S, chkd, isAdr, bput, bgot, cells_agg, splice, partA, eq_self, List.replicate_succ, List.replicate_zero, List.set_cons_zero, List.set_cons_succ, List.getElem?_cons_zero, List.getElem?_cons_succ, List.drop_zero, List.drop_succ_cons, List.drop_nil, List.take_zero, List.take_succ_cons, List.take_nil, Option.getD_some, map_c, map_n, List.length_cons, List.length_nil, Nat.reduceAdd, Nat.reduceSub, Nat.reduceLeDiff, Nat.reduceEqDiff, Nat.zero_add, List.cons_append, List.nil_append, List.append_nil, if_true, if_false, Bool.false_eq_true, ne_eq, not_true_eq_false]
  refine CallK.of c3 ?_
  simp (maxSteps := 4000000) -implicitDefEqProofs -dsimp (disch := omega) only [↓AW_ops, ↓AW_seq, ↓AOps_nil, ↓AOps_pu, ↓AOps_call, ↓AOps_guard, on_some, extK_false, guardB_ff, ↓then_normal, pval, rd_S, rd_C, put_S, chkd, bput, bgot, cells_agg, splice, partA, eq_self, List.replicate_succ, List.replicate_zero, List.set_cons_zero, List.set_cons_succ, List.getElem?_cons_zero, List.getElem?_cons_succ, List.drop_zero, List.drop_succ_cons, List.drop_nil, List.take_zero, List.take_succ_cons, List.take_nil, Option.getD_some, map_c, map_n, List.length_cons, List.length_nil, Nat.reduceAdd, Nat.reduceSub, Nat.reduceLeDiff, Nat.reduceEqDiff, Nat.zero_add, List.cons_append, List.nil_append, List.append_nil, bin_neq, if_true, if_false, decide_false, ne_eq, not_true_eq_false]
  have hlC : (chR rs k c).length ≤ 1000000 := by rw [chR_len]; exact hl
  refine CallK.of (s55 (hoa.ls.mono p3) hob.ls hlC) ?_
  simp (maxSteps := 4000000) -implicitDefEqProofs -dsimp (disch := omega) only [↓AW_skip, ↓AW_ops, ↓AW_seq, ↓AW_cond, ↓AOps_nil, ↓AOps_pu, ↓AOps_call, ↓AOps_guard, on_some, extK_same, guardB_ff, condB_t, condB_f, ↓then_normal, pval, rd_S, rd_C, put_S, chkd, isAdr, bgot, cells_agg, partA, eq_self, List.replicate_succ, List.replicate_zero, List.set_cons_zero, List.set_cons_succ, List.getElem?_cons_zero, List.getElem?_cons_succ, List.drop_zero, List.take_zero, List.take_succ_cons, List.take_nil, Option.getD_some, map_c, map_n, List.length_cons, List.length_nil, Nat.reduceAdd, Nat.reduceSub, Nat.reduceLeDiff, Nat.reduceEqDiff, Nat.zero_add, List.cons_append, List.nil_append, bin_eql, if_true, if_false, Bool.false_eq_true, Bool.not_true, decide_true, and_true]
  refine CallK.of (s19 (huB.mono p3) hP k hl) ?_
  simp (maxSteps := 4000000) -implicitDefEqProofs -dsimp (disch := omega) only [↓AW_ops, ↓AW_seq, ↓AOps_nil, ↓AOps_pu, ↓AOps_call, on_some, extK_same, ↓then_normal, pval, rd_S, put_S, chkd, isAdr, bgot, cells_agg, partA, eq_self, List.replicate_succ, List.replicate_zero, List.set_cons_zero, List.set_cons_succ, List.getElem?_cons_zero, List.getElem?_cons_succ, List.drop_zero, List.take_zero, List.take_succ_cons, List.take_nil, Option.getD_some, map_c, map_n, List.length_cons, List.length_nil, Nat.reduceAdd, Nat.reduceSub, Nat.reduceLeDiff, Nat.reduceEqDiff, Nat.zero_add, List.cons_append, List.nil_append, if_true, if_false, Bool.false_eq_true, decide_true, and_true]
  refine CallK.of (s19 (hoa.ls.mono p3) hP k hlC) ?_
  have hd : decide (rgJ Q (chR rs k c) k) = decide (rgJ Q rs k) := decide_eq_decide.2 f5
  rw [f1, f2, f4, hd]
  simp (maxSteps := 4000000) -implicitDefEqProofs -dsimp (disch := omega) only [↓AW_ops, ↓AW_seq, ↓AOps_nil, ↓AOps_pu, ↓AOps_call, on_some, extK_same, ↓then_normal, pval, rd_S, put_S, chkd, bgot, partA, eq_self, List.replicate_succ, List.replicate_zero, List.set_cons_zero, List.set_cons_succ, List.getElem?_cons_zero, List.getElem?_cons_succ, List.drop_zero, List.take_succ_cons, List.take_nil, Option.getD_some, map_c, map_n, List.length_cons, List.length_nil, Nat.reduceAdd, Nat.reduceSub, Nat.reduceLeDiff, Nat.reduceEqDiff, Nat.zero_add, List.cons_append, List.nil_append, if_true, if_false, decide_true, and_true]
  obtain ⟨rn, H4, c4, p4, hN⟩ := s47 (hoa.ls.mono p3) hP
  refine CallK.of c4 ?_
  rw [f3]
  have hlN : (neL Q (chR rs k c)).length ≤ 1000000 := by
    have h2 : ((nums (chR rs k c)).filter (fun i => decide (nev Q.toNat (chR rs k c) i))).length ≤ (chR rs k c).length := filt_len _ _
    unfold neL
    by_cases g : vE Q (chR rs k c) = 0
    · rw [if_pos g]; exact Nat.le_trans h2 hlC
    · rw [if_neg g]; exact Nat.zero_le _
  have ho4 := hoa.mono (p3.trans p4)
  by_cases hj : rgJ Q rs k
  · rw [decide_eq_true hj]
    simp (maxSteps := 4000000) -implicitDefEqProofs -dsimp (disch := omega) only [↓AW_ops, ↓AW_seq, ↓AOps_nil, ↓AOps_pu, ↓AOps_call, ↓AOps_guard, on_some, extK_false, guardB_tt, guardB_ff, ↓then_normal, pval, rd_S, rd_C, put_S, chkd, isAdr, bgot, cells_agg, partA, beq_self_eq_true, eq_self, List.replicate_succ, List.replicate_zero, List.set_cons_zero, List.set_cons_succ, List.getElem?_cons_zero, List.getElem?_cons_succ, List.drop_zero, List.take_zero, List.take_succ_cons, Option.getD_some, map_c, map_n, List.length_cons, List.length_nil, Nat.reduceAdd, Nat.reduceSub, Nat.reduceLeDiff, Nat.zero_add, List.cons_append, List.nil_append, bin_neq, if_true, if_false, Bool.false_eq_true, Bool.not_true, decide_true, decide_false, and_true, not_true_eq_false]
    refine CallK.of (s51 hN hlN k) ?_
    have hg := f6 hj
    by_cases hcc : rgA Q rs k < c
    · rw [decide_eq_true (hg.2 hcc)]
      simp (maxSteps := 4000000) -implicitDefEqProofs -dsimp (disch := omega) only [↓AW_skip, ↓AW_ops, ↓AW_seq, ↓AW_cond, ↓AW_block, ↓AOps_nil, ↓AOps_pu, ↓AOps_guard, on_some, extK_same, guardB_tt, guardB_ff, condB_f, ↓then_normal, pval, rd_S, rd_C, put_S, ↓AW_toLoop, chkd, isAdr, bgot, cells_agg, partA, beq_self_eq_true, eq_self, List.replicate_succ, List.replicate_zero, List.set_cons_zero, List.set_cons_succ, List.getElem?_cons_zero, List.getElem?_cons_succ, List.drop_zero, List.drop_succ_cons, List.take_succ_cons, List.take_nil, Option.getD_some, List.length_cons, List.length_nil, Nat.reduceAdd, Nat.reduceSub, Nat.reduceLeDiff, Nat.zero_add, List.cons_append, List.nil_append, bin_gtr, if_true, if_false, Bool.false_eq_true, Bool.not_true, decide_true, and_true, hcc]
      refine LoopK.by 126 (fun x : Nat × List Rd => x.1 ≤ rs.length ∧ x.2.length = rs.length) (fun x => [(2, .agg [I Q, u]), (5, .agg [I Q, yo]), (6, .agg [I Q, ya]), (18, I x.1)]) (fun x => H4.set na (.cells true (x.2.flatMap e3))) (fun x => rs.length - x.1) (0, chR rs k c) ⟨by simp only; omega, chR_len rs k c⟩ rfl (by simp [Has, rd_s]) (by simp only; rw [set_same ho4.ob]) ?_
      rintro ⟨i, zs⟩ ⟨hi, hz⟩
      simp only at hi hz
      have hoz := OL_setAll ho4 zs (by rw [chR_len]; exact hz)
      by_cases hlt : i < rs.length
      · have hlz : i < zs.length := by omega
        have hlt' : (i : Int) < zs.length := by omega
        have hst := wr_st hoz hlz
        rw [List.set_set] at hst
        simp (maxSteps := 4000000) -implicitDefEqProofs -dsimp (disch := omega) only [↓AW_skip, ↓AW_ops, ↓AW_seq, ↓AW_cond, ↓AW_block, ↓AOps_nil, ↓AOps_pu, ↓AOps_ha, on_some, extK_false, condB_t, ↓then_normal, ↓inBlock_normal, pval, hval_st, rd_S, rd_C, put_S, putS_none, chkd, isAdr, bgot, cells_agg, partA, eq_self, mk, List.foldl_cons, List.foldl_nil, List.replicate_succ, List.replicate_zero, List.set_cons_zero, List.set_cons_succ, List.getElem?_cons_zero, List.getElem?_cons_succ, List.drop_zero, List.drop_succ_cons, List.take_succ_cons, List.take_nil, Option.getD_some, Option.map_some, List.length_cons, List.length_nil, Nat.reduceAdd, Nat.reduceLeDiff, Nat.zero_add, bin_add, bin_lss, w64, if_true, if_false, Bool.false_eq_true, decide_true, true_and, Int.reduceNeg, hoz.ls.len, hlt', hoz.ls.idx hlz, hst]
        exact ⟨(i + 1, zs.set i (zs[i].1, zs[i].2.1, -1)), ⟨hlt, by simp only; rw [List.length_set]; exact hz⟩, by simp [Has, rd_s], rfl, by simp only; omega⟩
      · have hlt' : ¬ ((i : Int) < zs.length) := by omega
        have hpz := hoz.pre
        simp (maxSteps := 4000000) -implicitDefEqProofs -dsimp (disch := omega) only [↓AW_ops, ↓AW_seq, ↓AW_cond, ↓AW_exit, ↓AOps_nil, ↓AOps_pu, ↓AOps_call, on_some, condB_f, ↓then_normal, ↓then_exit, ↓inBlock_exit, pval, rd_S, put_S, chkd, isAdr, bgot, cells_agg, partA, eq_self, mk, List.foldl_cons, List.foldl_nil, List.replicate_succ, List.replicate_zero, List.set_cons_zero, List.set_cons_succ, List.getElem?_cons_zero, List.getElem?_cons_succ, List.drop_zero, List.drop_succ_cons, List.take_succ_cons, List.take_nil, Option.getD_some, map_c, map_n, List.length_cons, List.length_nil, Nat.reduceAdd, Nat.reduceLeDiff, Nat.reduceEqDiff, Nat.zero_add, bin_lss, if_true, if_false, Bool.false_eq_true, decide_false, hoz.ls.len, hlt']
        refine CallK.of (s55 (hLo.mono hpz) (hu.mono (p1.trans hpz)) hl) ?_
        simp (maxSteps := 4000000) -implicitDefEqProofs -dsimp (disch := omega) only [↓AOps_pu, ↓AOps_call, ↓AOps_guard, on_some, extK_same, guardB_tt, pval, rd_S, put_S, eq_self, mk, List.foldl_cons, List.foldl_nil, List.replicate_succ, List.replicate_zero, List.set_cons_zero, List.set_cons_succ, List.getElem?_cons_zero, List.getElem?_cons_succ, Option.getD_some, map_n, decide_true, and_true]
        refine CallK.of (known (H4.set na (.cells true (zs.flatMap e3)))) ?_
        simp (maxSteps := 4000000) -implicitDefEqProofs -dsimp (disch := omega) only [↓AW_ret, ↓AOps_nil, ↓AOps_pu, on_some, extK_same, ↓then_normal, ↓Fin_ret, pval, rd_S, rd_C, put_S, resV, resL, eq_self, mk, List.foldl_cons, List.foldl_nil, List.replicate_succ, List.replicate_zero, List.set_cons_zero, List.set_cons_succ, List.getElem?_cons_zero, List.getElem?_cons_succ, Option.getD_some, if_true, decide_true, and_true]
        exact gc_val (p1.trans hpz) rfl
    · rw [decide_eq_false (fun g => hcc (hg.1 g))]
      simp (maxSteps := 4000000) -implicitDefEqProofs -dsimp (disch := omega) only [↓AW_skip, ↓AW_ops, ↓AW_seq, ↓AW_cond, ↓AW_block, ↓AOps_nil, ↓AOps_pu, ↓AOps_guard, on_some, extK_same, guardB_tt, guardB_ff, condB_f, ↓then_normal, pval, rd_S, rd_C, put_S, ↓AW_toLoop, chkd, isAdr, bgot, cells_agg, partA, beq_self_eq_true, eq_self, List.replicate_succ, List.replicate_zero, List.set_cons_zero, List.set_cons_succ, List.getElem?_cons_zero, List.getElem?_cons_succ, List.drop_zero, List.drop_succ_cons, List.take_succ_cons, List.take_nil, Option.getD_some, List.length_cons, List.length_nil, Nat.reduceAdd, Nat.reduceSub, Nat.reduceLeDiff, Nat.zero_add, List.cons_append, List.nil_append, bin_gtr, if_true, if_false, Bool.false_eq_true, Bool.not_true, decide_true, decide_false, and_true, hcc]
      refine LoopK.by 126 (fun x : Nat × List Rd => x.1 ≤ rs.length ∧ x.2.length = rs.length) (fun x => [(2, .agg [I Q, u]), (5, .agg [I Q, yo]), (6, .agg [I Q, ya]), (18, I x.1)]) (fun x => H4.set na (.cells true (x.2.flatMap e3))) (fun x => rs.length - x.1) (0, chR rs k c) ⟨by simp only; omega, chR_len rs k c⟩ rfl (by simp [Has, rd_s]) (by simp only; rw [set_same ho4.ob]) ?_
      rintro ⟨i, zs⟩ ⟨hi, hz⟩
      simp only at hi hz
      have hoz := OL_setAll ho4 zs (by rw [chR_len]; exact hz)
      by_cases hlt : i < rs.length
      · have hlz : i < zs.length := by omega
        have hlt' : (i : Int) < zs.length := by omega
        have hst := wr_st hoz hlz
        rw [List.set_set] at hst
        simp (maxSteps := 4000000) -implicitDefEqProofs -dsimp (disch := omega) only [↓AW_skip, ↓AW_ops, ↓AW_seq, ↓AW_cond, ↓AW_block, ↓AOps_nil, ↓AOps_pu, ↓AOps_ha, on_some, extK_false, condB_t, ↓then_normal, ↓inBlock_normal, pval, hval_st, rd_S, rd_C, put_S, putS_none, chkd, isAdr, bgot, cells_agg, partA, eq_self, mk, List.foldl_cons, List.foldl_nil, List.replicate_succ, List.replicate_zero, List.set_cons_zero, List.set_cons_succ, List.getElem?_cons_zero, List.getElem?_cons_succ, List.drop_zero, List.drop_succ_cons, List.take_succ_cons, List.take_nil, Option.getD_some, Option.map_some, List.length_cons, List.length_nil, Nat.reduceAdd, Nat.reduceLeDiff, Nat.zero_add, bin_add, bin_lss, w64, if_true, if_false, Bool.false_eq_true, decide_true, true_and, Int.reduceNeg, hoz.ls.len, hlt', hoz.ls.idx hlz, hst]
        exact ⟨(i + 1, zs.set i (zs[i].1, zs[i].2.1, -1)), ⟨hlt, by simp only; rw [List.length_set]; exact hz⟩, by simp [Has, rd_s], rfl, by simp only; omega⟩
      · have hlt' : ¬ ((i : Int) < zs.length) := by omega
        have hpz := hoz.pre
        simp (maxSteps := 4000000) -implicitDefEqProofs -dsimp (disch := omega) only [↓AW_ops, ↓AW_seq, ↓AW_cond, ↓AW_exit, ↓AOps_nil, ↓AOps_pu, ↓AOps_call, on_some, condB_f, ↓then_normal, ↓then_exit, ↓inBlock_exit, pval, rd_S, put_S, chkd, isAdr, bgot, cells_agg, partA, eq_self, mk, List.foldl_cons, List.foldl_nil, List.replicate_succ, List.replicate_zero, List.set_cons_zero, List.set_cons_succ, List.getElem?_cons_zero, List.getElem?_cons_succ, List.drop_zero, List.drop_succ_cons, List.take_succ_cons, List.take_nil, Option.getD_some, map_c, map_n, List.length_cons, List.length_nil, Nat.reduceAdd, Nat.reduceLeDiff, Nat.reduceEqDiff, Nat.zero_add, bin_lss, if_true, if_false, Bool.false_eq_true, decide_false, hoz.ls.len, hlt']
        refine CallK.of (s55 (hLo.mono hpz) (hu.mono (p1.trans hpz)) hl) ?_
        simp (maxSteps := 4000000) -implicitDefEqProofs -dsimp (disch := omega) only [↓AOps_pu, ↓AOps_call, ↓AOps_guard, on_some, extK_same, guardB_tt, pval, rd_S, put_S, eq_self, mk, List.foldl_cons, List.foldl_nil, List.replicate_succ, List.replicate_zero, List.set_cons_zero, List.set_cons_succ, List.getElem?_cons_zero, List.getElem?_cons_succ, Option.getD_some, map_n, decide_true, and_true]
        refine CallK.of (known (H4.set na (.cells true (zs.flatMap e3)))) ?_
        simp (maxSteps := 4000000) -implicitDefEqProofs -dsimp (disch := omega) only [↓AW_ret, ↓AOps_nil, ↓AOps_pu, on_some, extK_same, ↓then_normal, ↓Fin_ret, pval, rd_S, rd_C, put_S, resV, resL, eq_self, mk, List.foldl_cons, List.foldl_nil, List.replicate_succ, List.replicate_zero, List.set_cons_zero, List.set_cons_succ, List.getElem?_cons_zero, List.getElem?_cons_succ, Option.getD_some, if_true, decide_true, and_true]
        exact gc_val (p1.trans hpz) rfl
  · rw [decide_eq_false hj]
    simp (maxSteps := 4000000) -implicitDefEqProofs -dsimp (disch := omega) only [↓AW_skip, ↓AW_ops, ↓AW_seq, ↓AW_cond, ↓AW_block, ↓AOps_nil, ↓AOps_pu, ↓AOps_guard, on_some, extK_false, guardB_ft, guardB_ff, skipS_some, condB_f, ↓then_normal, pval, rd_S, rd_C, put_S, ↓AW_toLoop, beq_self_eq_true, eq_self, List.replicate_succ, List.replicate_zero, List.set_cons_zero, List.set_cons_succ, List.getElem?_cons_zero, List.getElem?_cons_succ, Option.getD_some, Nat.reduceSub, List.cons_append, List.nil_append, bin_neq, if_true, if_false, Bool.false_eq_true, Bool.not_true, decide_true, decide_false, and_true, not_true_eq_false]
    refine LoopK.by 126 (fun x : Nat × List Rd => x.1 ≤ rs.length ∧ x.2.length = rs.length) (fun x => [(2, .agg [I Q, u]), (5, .agg [I Q, yo]), (6, .agg [I Q, ya]), (18, I x.1)]) (fun x => H4.set na (.cells true (x.2.flatMap e3))) (fun x => rs.length - x.1) (0, chR rs k c) ⟨by simp only; omega, chR_len rs k c⟩ rfl (by simp [Has, rd_s]) (by simp only; rw [set_same ho4.ob]) ?_
    rintro ⟨i, zs⟩ ⟨hi, hz⟩
    simp only at hi hz
    have hoz := OL_setAll ho4 zs (by rw [chR_len]; exact hz)
    by_cases hlt : i < rs.length
    · have hlz : i < zs.length := by omega
      have hlt' : (i : Int) < zs.length := by omega
      have hst := wr_st hoz hlz
      rw [List.set_set] at hst
      simp (maxSteps := 4000000) -implicitDefEqProofs -dsimp (disch := omega) only [↓AW_skip, ↓AW_ops, ↓AW_seq, ↓AW_cond, ↓AW_block, ↓AOps_nil, ↓AOps_pu, ↓AOps_ha, on_some, extK_false, condB_t, ↓then_normal, ↓inBlock_normal, pval, hval_st, rd_S, rd_C, put_S, putS_none, chkd, isAdr, bgot, cells_agg, partA, eq_self, mk, List.foldl_cons, List.foldl_nil, List.replicate_succ, List.replicate_zero, List.set_cons_zero, List.set_cons_succ, List.getElem?_cons_zero, List.getElem?_cons_succ, List.drop_zero, List.drop_succ_cons, List.take_succ_cons, List.take_nil, Option.getD_some, Option.map_some, List.length_cons, List.length_nil, Nat.reduceAdd, Nat.reduceLeDiff, Nat.zero_add, bin_add, bin_lss, w64, if_true, if_false, Bool.false_eq_true, decide_true, true_and, Int.reduceNeg, hoz.ls.len, hlt', hoz.ls.idx hlz, hst]
      exact ⟨(i + 1, zs.set i (zs[i].1, zs[i].2.1, -1)), ⟨hlt, by simp only; rw [List.length_set]; exact hz⟩, by simp [Has, rd_s], rfl, by simp only; omega⟩
    · have hlt' : ¬ ((i : Int) < zs.length) := by omega
      have hpz := hoz.pre
      simp (maxSteps := 4000000) -implicitDefEqProofs -dsimp (disch := omega) only [↓AW_ops, ↓AW_seq, ↓AW_cond, ↓AW_exit, ↓AOps_nil, ↓AOps_pu, ↓AOps_call, on_some, condB_f, ↓then_normal, ↓then_exit, ↓inBlock_exit, pval, rd_S, put_S, chkd, isAdr, bgot, cells_agg, partA, eq_self, mk, List.foldl_cons, List.foldl_nil, List.replicate_succ, List.replicate_zero, List.set_cons_zero, List.set_cons_succ, List.getElem?_cons_zero, List.getElem?_cons_succ, List.drop_zero, List.drop_succ_cons, List.take_succ_cons, List.take_nil, Option.getD_some, map_c, map_n, List.length_cons, List.length_nil, Nat.reduceAdd, Nat.reduceLeDiff, Nat.reduceEqDiff, Nat.zero_add, bin_lss, if_true, if_false, Bool.false_eq_true, decide_false, hoz.ls.len, hlt']
      refine CallK.of (s55 (hLo.mono hpz) (hu.mono (p1.trans hpz)) hl) ?_
      simp (maxSteps := 4000000) -implicitDefEqProofs -dsimp (disch := omega) only [↓AOps_pu, ↓AOps_call, ↓AOps_guard, on_some, extK_same, guardB_tt, pval, rd_S, put_S, eq_self, mk, List.foldl_cons, List.foldl_nil, List.replicate_succ, List.replicate_zero, List.set_cons_zero, List.set_cons_succ, List.getElem?_cons_zero, List.getElem?_cons_succ, Option.getD_some, map_n, decide_true, and_true]
      refine CallK.of (known (H4.set na (.cells true (zs.flatMap e3)))) ?_
      simp (maxSteps := 4000000) -implicitDefEqProofs -dsimp (disch := omega) only [↓AW_ret, ↓AOps_nil, ↓AOps_pu, on_some, extK_same, ↓then_normal, ↓Fin_ret, pval, rd_S, rd_C, put_S, resV, resL, eq_self, mk, List.foldl_cons, List.foldl_nil, List.replicate_succ, List.replicate_zero, List.set_cons_zero, List.set_cons_succ, List.getElem?_cons_zero, List.getElem?_cons_succ, Option.getD_some, if_true, decide_true, and_true]
      exact gc_val (p1.trans hpz) rfl
end
end Go.Proofs.Ytkgfcdpckfhknaa

