/- What the law's proof rests on, part 5: for all that is said in each line. No conditions. -/
import Derived.Test.YtkgfcdpckfhknaaCkB
namespace Go.Proofs.Ytkgfcdpckfhknaa
open Go Go.Eng
/-- One road of a tree may be another. -/
def swp (P : Nat) (rs : List Rd) (ks : List Int) (o i : Int) : Prop := o ∈ ks ∧ i ∉ ks ∧ Tree P (rdx rs) (mkT ks o i rs.length)
noncomputable instance swpDec (P : Nat) (rs : List Rd) (ks : List Int) (o i : Int) : Decidable (swp P rs ks o i) := Classical.propDecidable _
/-- The error of a trade, and its gain. -/
noncomputable def gE (Q : Int) (rs : List Rd) (ks : List Int) (o i : Int) : Int := if nE Q rs [o, i] = 0 then (if tE Q rs ks = 0 then (if swp Q.toNat rs ks o i then 0 else 8) else tE Q rs ks) else nE Q rs [o, i]
noncomputable def gG (Q : Int) (rs : List Rd) (ks : List Int) (o i : Int) : Int := if gE Q rs ks o i = 0 then wct rs o - wct rs i else 0
theorem nE_2 {Q : Int} {rs : List Rd} {o i : Int} (h : nE Q rs [o, i] = 0) : Net Q rs ∧ (0 ≤ o ∧ o ≤ (rs.length : Int) - 1) ∧ (0 ≤ i ∧ i ≤ (rs.length : Int) - 1) := by
  unfold nE at h
  by_cases h0 : vE Q rs = 0
  · rw [if_pos h0] at h
    by_cases h1 : notOf rs.length [o, i] = true
    · rw [if_pos h1] at h; cases h
    · have := notOf_nos h1 o (by simp)
      have := notOf_nos h1 i (by simp)
      exact ⟨vE_0.1 h0, by omega, by omega⟩
  · rw [if_neg h0] at h; exact absurd h h0
section
variable {P : Nat} {rs : List Rd} {ks : List Int} {u v : AV} {A : AHeap}
theorem s88 (hx : L1 A v ks) (hl : ks.length ≤ 1000000) (o i : Int) (n : Nat) (hn : n ≤ 1000) : ∃ r H, ACalls Try.prog 88 [v, I o, I i, I n] A r H ∧ A <+: H ∧ L1 H r (mkT ks o i n) := by
  refine acallsR hmix Try.func88 (by kernel_rfl) t88 _ 4 rfl (by decide) ?_
  dsimp only [m88]
  simp (maxSteps := 4000000) -implicitDefEqProofs -dsimp (disch := omega) only [↓AW_ops, ↓AW_seq, ↓AW_block, ↓AOps_nil, ↓AOps_pu, on_some, ↓then_normal, pval, rd_C, put_S, ↓AW_toLoop, List.replicate_succ, List.replicate_zero, List.set_cons_zero, List.set_cons_succ, Nat.reduceSub, List.cons_append, List.nil_append]
  refine LoopK.by 34 (fun x : Nat × AV × AHeap => x.1 ≤ n ∧ AccL 1 e1 A x.2.2 x.2.1 (mkT ks o i x.1)) (fun x => [(0, v), (1, I o), (2, I i), (3, I n), (9, x.2.1), (10, I x.1)]) (fun x => x.2.2) (fun x => n - x.1) (0, .nilS, A) ⟨by simp only; omega, AccL.nil (List.prefix_refl _)⟩ rfl (by simp [Has, rd_s]) rfl ?_
  rintro ⟨j, y, H⟩ ⟨hj, hac⟩
  simp only at hj hac
  have hxH := hx.mono hac.1
  by_cases hlt : j < n
  · have hlt' : (j : Int) < n := by omega
    have hfl := filt_len (fun j => decide (j = i ∨ (¬ j = o ∧ j ∈ ks))) j
    have hsu := filt_succ (fun j => decide (j = i ∨ (¬ j = o ∧ j ∈ ks))) j
    have hyes : ((j : Int) = i ∨ (¬ (j : Int) = o ∧ (j : Int) ∈ ks)) → ∃ n H2, appA 1 (H ++ [.cells true [I j]]) y (.sl 1 H.length 0 1 true) = some (n, H2) ∧ AccL 1 e1 A H2 n (mkT ks o i (j + 1)) := fun h => by
      rw [if_pos (decide_eq_true h)] at hsu
      obtain ⟨v', H2, happ, hacc⟩ := hac.push e1_len (j : Int) (by unfold mkT; simp only [lim]; omega)
      refine ⟨v', H2, happ, ?_⟩
      unfold mkT
      rw [hsu]
      exact hacc
    have hno : ¬ ((j : Int) = i ∨ (¬ (j : Int) = o ∧ (j : Int) ∈ ks)) → AccL 1 e1 A H y (mkT ks o i (j + 1)) := fun h => by
      rw [if_neg (by rw [decide_eq_false h]; simp), List.append_nil] at hsu
      unfold mkT
      rw [hsu]
      exact hac
    by_cases h1 : (j : Int) = i
    · obtain ⟨v', H2, happ, hacc⟩ := hyes (.inl h1)
      subst h1
      simp (maxSteps := 4000000) -implicitDefEqProofs -dsimp (disch := omega) only [↓AW_skip, ↓AW_ops, ↓AW_seq, ↓AW_cond, ↓AW_block, ↓AOps_nil, ↓AOps_pu, ↓AOps_ha, ↓AOps_guard, on_some, extK_false, extK_app, guardB_tf, guardB_undef, skipS_some, condB_t, ↓then_normal, ↓inBlock_normal, pval, hval_blds, hval_app, rd_S, rd_C, put_S, cells_int, splice, fillA, repl, eq_self, mk, List.foldl_cons, List.foldl_nil, List.replicate_succ, List.replicate_zero, List.set_cons_zero, List.set_cons_succ, List.getElem?_cons_zero, List.getElem?_cons_succ, List.drop_succ_cons, List.drop_nil, List.take_zero, Option.getD_some, map_c, map_n, List.length_cons, List.length_nil, Nat.reduceAdd, Nat.reduceLeDiff, Nat.zero_add, List.nil_append, List.append_nil, bin_add, bin_eql, bin_lss, w64, if_true, decide_true, true_and, and_true, hlt', happ, List.replicate_zero, repl]
      exact ⟨(j + 1, v', H2), ⟨hlt, hacc⟩, by simp [Has, rd_s], rfl, by simp only; omega⟩
    · by_cases h2 : (j : Int) = o
      · have hac2 := hno (by rintro (h | h); exact h1 h; exact h.1 h2)
        subst h2
        simp (maxSteps := 4000000) -implicitDefEqProofs -dsimp (disch := omega) only [↓AW_skip, ↓AW_ops, ↓AW_seq, ↓AW_cond, ↓AW_block, ↓AOps_nil, ↓AOps_pu, ↓AOps_guard, on_some, guardB_ft, guardB_ff, skipS_some, condB_t, condB_f, ↓then_normal, ↓inBlock_normal, pval, rd_S, rd_C, put_S, eq_self, mk, List.foldl_cons, List.foldl_nil, List.replicate_succ, List.replicate_zero, List.set_cons_zero, List.set_cons_succ, List.getElem?_cons_zero, List.getElem?_cons_succ, Option.getD_some, List.length_cons, List.length_nil, Nat.reduceAdd, Nat.zero_add, bin_add, bin_eql, bin_neq, bin_lss, w64, if_false, Bool.false_eq_true, decide_true, decide_false, true_and, not_true_eq_false, hlt', h1]
        exact ⟨(j + 1, y, H), ⟨hlt, hac2⟩, by simp [Has, rd_s], rfl, by simp only; omega⟩
      · simp (maxSteps := 4000000) -implicitDefEqProofs -dsimp (disch := omega) only [↓AW_skip, ↓AW_ops, ↓AW_seq, ↓AW_cond, ↓AW_block, ↓AOps_nil, ↓AOps_pu, ↓AOps_call, ↓AOps_guard, on_some, guardB_tt, guardB_ff, condB_t, ↓then_normal, pval, rd_S, put_S, mk, List.foldl_cons, List.foldl_nil, List.replicate_succ, List.replicate_zero, List.set_cons_zero, List.set_cons_succ, List.getElem?_cons_zero, List.getElem?_cons_succ, Option.getD_some, map_c, map_n, bin_eql, bin_neq, bin_lss, decide_true, decide_false, not_false_eq_true, hlt', h1, h2]
        refine CallK.of (s51 hxH hl (j : Int)) ?_
        by_cases h3 : (j : Int) ∈ ks
        · obtain ⟨v', H2, happ, hacc⟩ := hyes (.inr ⟨h2, h3⟩)
          rw [decide_eq_true h3]
          simp (maxSteps := 4000000) -implicitDefEqProofs -dsimp (disch := omega) only [↓AW_ops, ↓AW_cond, ↓AOps_nil, ↓AOps_pu, ↓AOps_ha, ↓AOps_guard, on_some, extK_false, extK_app, extK_same, guardB_ff, condB_t, ↓then_normal, ↓inBlock_normal, pval, hval_blds, hval_app, rd_S, rd_C, put_S, cells_int, splice, fillA, repl, eq_self, mk, List.foldl_cons, List.foldl_nil, List.replicate_succ, List.replicate_zero, List.set_cons_zero, List.set_cons_succ, List.getElem?_cons_zero, List.getElem?_cons_succ, List.drop_succ_cons, List.drop_nil, List.take_zero, Option.getD_some, map_c, map_n, List.length_cons, List.length_nil, Nat.reduceAdd, Nat.reduceLeDiff, Nat.zero_add, List.nil_append, List.append_nil, bin_add, w64, if_true, if_false, Bool.false_eq_true, true_and, and_true, happ, List.replicate_zero, repl]
          exact ⟨(j + 1, v', H2), ⟨hlt, hacc⟩, by simp [Has, rd_s], rfl, by simp only; omega⟩
        · have hac2 := hno (by rintro (h | h); exact h1 h; exact h3 h.2)
          rw [decide_eq_false h3]
          simp (maxSteps := 4000000) -implicitDefEqProofs -dsimp (disch := omega) only [↓AW_skip, ↓AW_ops, ↓AW_cond, ↓AOps_nil, ↓AOps_pu, ↓AOps_guard, on_some, extK_same, guardB_ff, condB_f, ↓then_normal, ↓inBlock_normal, pval, rd_S, rd_C, put_S, eq_self, mk, List.foldl_cons, List.foldl_nil, List.replicate_succ, List.replicate_zero, List.set_cons_zero, List.set_cons_succ, List.getElem?_cons_zero, List.getElem?_cons_succ, Option.getD_some, List.length_cons, List.length_nil, Nat.reduceAdd, Nat.zero_add, bin_add, w64, if_true, if_false, Bool.false_eq_true, true_and]
          exact ⟨(j + 1, y, H), ⟨hlt, hac2⟩, by simp [Has, rd_s], rfl, by simp only; omega⟩
  · have hlt' : ¬ ((j : Int) < n) := by omega
    have hjn : j = n := by omega
    subst hjn
    simp (maxSteps := 4000000) -implicitDefEqProofs -dsimp (disch := omega) only [↓AW_ops, ↓AW_seq, ↓AW_cond, ↓AW_exit, ↓AW_ret, ↓AOps_nil, ↓AOps_pu, on_some, condB_f, ↓then_normal, ↓then_exit, ↓inBlock_exit, ↓FinR_ret, pval, rd_S, put_S, resV, resL, eq_self, mk, List.foldl_cons, List.foldl_nil, List.replicate_succ, List.replicate_zero, List.set_cons_zero, List.set_cons_succ, List.getElem?_cons_zero, List.getElem?_cons_succ, Option.getD_some, bin_lss, if_true, decide_false, hlt']
    exact ⟨_, _, gc_all, hac.1, AccL_ls hac e1_len⟩
set_option maxRecDepth 20000 in
set_option maxHeartbeats 16000000 in
theorem s86 (hu : L3 A u rs) (hx : L1 A v ks) (hn : Net P rs) (hok : okS rs.length ks) (hT : Tree P (rdx rs) ks) (o i : Int) (hi : 0 ≤ i ∧ i ≤ (rs.length : Int) - 1) : ∃ r H, ACalls Try.prog 86 [.agg [I P, u], v, I o, I i] A (.tuple [r, B (decide (swp P rs ks o i))]) H ∧ A <+: H := by
  have key : ∃ t H, ACalls Try.prog 86 [.agg [I P, u], v, I o, I i] A t H ∧ ∃ r, t = .tuple [r, B (decide (swp P rs ks o i))] ∧ A <+: H := by
    refine acallsR hmix Try.func86 (by kernel_rfl) t86 _ 4 rfl (by decide) ?_
    have hp7 := hn.p7
    have hT1 := hT.1
    have hpA := pre_app A [AObj.cells true [I o]]
    have hld : ldA 1 false (.ptr A.length 0) (A ++ [AObj.cells true [I o]]) = some (I o) := by simp [ldA, partA]
    have hx1 := hx.mono hpA
    have hu1 := hu.mono hpA
    dsimp only [m86]
    simp (maxSteps := 4000000) -implicitDefEqProofs -dsimp (disch := omega) only [↓AW_ops, ↓AW_seq, ↓AOps_nil, ↓AOps_pu, ↓AOps_ld, ↓AOps_ha, ↓AOps_call, on_some, extK_app, ↓then_normal, pval, lval_ld, hval_newv, rd_S, rd_C, put_S, cells_agg, cells_int, List.replicate_succ, List.replicate_zero, List.set_cons_zero, List.set_cons_succ, List.getElem?_cons_zero, List.getElem?_cons_succ, Option.getD_some, map_c, map_n, Nat.reduceSub, List.cons_append, List.nil_append, hld]
    refine CallK.of (c_Contains hx1 (by omega) o) ?_
    by_cases ho : o ∈ ks
    case neg =>
      rw [decide_eq_false ho, decide_eq_false (fun h : swp P rs ks o i => ho h.1)]
      simp (maxSteps := 4000000) -implicitDefEqProofs -dsimp (disch := omega) only [↓AW_ops, ↓AW_seq, ↓AW_cond, ↓AW_ret, ↓AOps_nil, ↓AOps_pu, ↓AOps_guard, on_some, extK_same, guardB_tf, skipS_some, condB_t, ↓then_normal, ↓then_ret, ↓FinR_ret, pval, rd_S, rd_C, put_S, resV, resL, eq_self, List.replicate_succ, List.replicate_zero, List.set_cons_zero, List.set_cons_succ, List.getElem?_cons_zero, List.getElem?_cons_succ, Option.getD_some, Nat.reduceSub, List.cons_append, List.nil_append, if_true, Bool.not_false]
      exact ⟨_, _, gc_all, _, rfl, hpA⟩
    rw [decide_eq_true ho]
    simp (maxSteps := 4000000) -implicitDefEqProofs -dsimp (disch := omega) only [↓AOps_pu, ↓AOps_call, ↓AOps_guard, on_some, extK_same, guardB_ff, pval, rd_S, put_S, List.replicate_succ, List.replicate_zero, List.set_cons_zero, List.set_cons_succ, List.getElem?_cons_zero, List.getElem?_cons_succ, Option.getD_some, map_c, map_n, Nat.reduceSub, List.cons_append, List.nil_append, Bool.not_true]
    refine CallK.of (c_Contains hx1 (by omega) i) ?_
    by_cases hk : i ∈ ks
    · rw [decide_eq_true hk, decide_eq_false (fun h : swp P rs ks o i => h.2.1 hk)]
      simp (maxSteps := 4000000) -implicitDefEqProofs -dsimp (disch := omega) only [↓AW_ops, ↓AW_seq, ↓AW_cond, ↓AW_ret, ↓AOps_nil, ↓AOps_pu, on_some, extK_same, condB_t, ↓then_normal, ↓then_ret, ↓FinR_ret, pval, rd_S, rd_C, put_S, resV, resL, List.replicate_succ, List.replicate_zero, List.set_cons_zero, List.set_cons_succ, List.getElem?_cons_zero, List.getElem?_cons_succ, Option.getD_some, Nat.reduceSub, List.cons_append, List.nil_append, if_false, Bool.false_eq_true]
      exact ⟨_, _, gc_all, _, rfl, hpA⟩
    rw [decide_eq_false hk]
    simp (maxSteps := 4000000) -implicitDefEqProofs -dsimp (disch := omega) only [↓AW_skip, ↓AW_ops, ↓AW_seq, ↓AW_cond, ↓AOps_nil, ↓AOps_pu, ↓AOps_call, on_some, extK_same, condB_f, ↓then_normal, pval, rd_S, rd_C, put_S, List.replicate_succ, List.replicate_zero, List.set_cons_zero, List.set_cons_succ, List.getElem?_cons_zero, List.getElem?_cons_succ, Option.getD_some, map_c, map_n, Nat.reduceSub, List.cons_append, List.nil_append, if_false, Bool.false_eq_true]
    have h0 : 0 < ks.length := List.length_pos_of_mem ho
    refine CallK.of (s102 hx1 h0 (by omega)) ?_
    have hpB := pre_app (A ++ [AObj.cells true [I o]]) [AObj.cells true [], AObj.cells true (ks.flatMap e1)]
    have hOL : OL 1 e1 A (A ++ [AObj.cells true [I o]] ++ [AObj.cells true [], AObj.cells true (ks.flatMap e1)]) ((A ++ [AObj.cells true [I o]]).length + 1) (.sl 1 ((A ++ [AObj.cells true [I o]]).length + 1) 0 ks.length false) ks := by
      have h0 := OL.new_mk e1_len (A ++ [AObj.cells true [I o]] ++ [AObj.cells true []]) ks false
      have q1 : A ++ [AObj.cells true [I o]] ++ [AObj.cells true []] ++ [AObj.cells true (ks.flatMap e1)] = A ++ [AObj.cells true [I o]] ++ [AObj.cells true [], AObj.cells true (ks.flatMap e1)] := by simp
      have q2 : (A ++ [AObj.cells true [I o]] ++ [AObj.cells true []]).length = (A ++ [AObj.cells true [I o]]).length + 1 := by simp
      rw [q1, q2] at h0
      exact ⟨h0.he, hpA.trans hpB, by simp; omega, h0.ob, h0.v⟩
    have hld2 : ldA 1 false (.ptr A.length 0) (A ++ [AObj.cells true [I o]] ++ [AObj.cells true [], AObj.cells true (ks.flatMap e1)]) = some (I o) := ld_mono hpB hld
    have h101 := s101c (p := o) hOL (by omega) (a := A.length) (by simp; omega) hld2
    simp (maxSteps := 4000000) -implicitDefEqProofs -dsimp (disch := omega) only [↓AOps_pu, ↓AOps_call, on_some, extK_app, pval, rd_S, put_S, List.replicate_succ, List.replicate_zero, List.set_cons_zero, List.set_cons_succ, List.getElem?_cons_zero, List.getElem?_cons_succ, Option.getD_some, map_c, map_n, Nat.reduceSub, List.cons_append, List.nil_append]
    refine CallK.of h101 ?_
    have hw := without_le ks o
    have hpC : A <+: (A ++ [AObj.cells true [I o]] ++ [AObj.cells true [], AObj.cells true (ks.flatMap e1)]).set ((A ++ [AObj.cells true [I o]]).length + 1) (.cells true ((without ks o ++ List.replicate (ks.length - (without ks o).length) 0).flatMap e1)) := hOL.old _
    have hob : ((A ++ [AObj.cells true [I o]] ++ [AObj.cells true [], AObj.cells true (ks.flatMap e1)]).set ((A ++ [AObj.cells true [I o]]).length + 1) (.cells true ((without ks o ++ List.replicate (ks.length - (without ks o).length) 0).flatMap e1)))[(A ++ [AObj.cells true [I o]]).length + 1]? = some (.cells true ((without ks o).flatMap e1 ++ (List.replicate (ks.length - (without ks o).length) (0 : Int)).flatMap e1)) := by
      rw [List.getElem?_set_self (by simp), List.flatMap_append]
    have hnew : A.length ≤ (A ++ [AObj.cells true [I o]]).length + 1 := by simp; omega
    generalize (A ++ [AObj.cells true [I o]] ++ [AObj.cells true [], AObj.cells true (ks.flatMap e1)]).set ((A ++ [AObj.cells true [I o]]).length + 1) (.cells true ((without ks o ++ List.replicate (ks.length - (without ks o).length) 0).flatMap e1)) = H2 at *
    generalize (A ++ [AObj.cells true [I o]]).length + 1 = n at *
    obtain ⟨n', H3, happ, hO3⟩ := app_OL hpC hnew hob (by simp only [lim]; omega) i
    simp (maxSteps := 4000000) -implicitDefEqProofs -dsimp (disch := omega) only [↓AW_ops, ↓AW_seq, ↓AOps_nil, ↓AOps_pu, ↓AOps_ha, ↓AOps_call, on_some, extK_false, extK_app, ↓then_normal, pval, hval_blds, hval_app, rd_S, put_S, cells_int, splice, fillA, repl, eq_self, List.replicate_succ, List.replicate_zero, List.set_cons_zero, List.set_cons_succ, List.getElem?_cons_zero, List.getElem?_cons_succ, List.drop_succ_cons, List.drop_nil, List.take_zero, Option.getD_some, map_c, map_n, List.length_cons, List.length_nil, Nat.reduceSub, Nat.reduceLeDiff, Nat.zero_add, List.cons_append, List.nil_append, List.append_nil, if_true, Bool.false_and, and_true, Bool.false_and, happ, List.replicate_zero, repl]
    have hlen : (without ks o ++ [i]).length = (without ks o).length + 1 := by simp
    refine CallK.of (c_Sort hO3 (by rw [hlen]; omega)) ?_
    have hO4 := OL_setAll hO3 (srt (without ks o ++ [i])) (srt_len _)
    rw [← mk_srt hok hi hk] at hO4 ⊢
    simp (maxSteps := 4000000) -implicitDefEqProofs -dsimp (disch := omega) only [↓AW_ops, ↓AW_seq, ↓AOps_nil, ↓AOps_pu, ↓AOps_call, on_some, extK_false, ↓then_normal, pval, rd_S, put_S, chkd, bgot, partA, eq_self, List.replicate_succ, List.replicate_zero, List.set_cons_zero, List.set_cons_succ, List.getElem?_cons_zero, List.getElem?_cons_succ, List.drop_zero, List.take_succ_cons, List.take_nil, Option.getD_some, map_c, map_n, List.length_cons, List.length_nil, Nat.reduceAdd, Nat.reduceSub, Nat.reduceLeDiff, Nat.reduceEqDiff, Nat.zero_add, List.cons_append, List.nil_append, if_true, if_false, Bool.false_and]
    have hmn : Nos rs (mkT ks o i rs.length) := fun j hj => by have := (mem_mk.1 hj).1; omega
    have hml : (mkT ks o i rs.length).length ≤ 1000000 := by rw [mk_srt hok hi hk, srt_len, hlen]; omega
    refine CallK.of (s60 (hu.mono hO4.pre) hO4.ls hn hmn hml) ?_
    have hsw : decide (swp P rs ks o i) = decide (Tree P (rdx rs) (mkT ks o i rs.length)) := decide_eq_decide.2 ⟨fun h => h.2.2, fun h => ⟨ho, hk, h⟩⟩
    rw [hsw]
    simp (maxSteps := 4000000) -implicitDefEqProofs -dsimp (disch := omega) only [↓AW_ret, ↓AOps_nil, ↓AOps_pu, on_some, extK_same, ↓then_normal, ↓FinR_ret, pval, rd_S, put_S, resV, resL, List.replicate_succ, List.replicate_zero, List.set_cons_zero, List.set_cons_succ, List.getElem?_cons_zero, List.getElem?_cons_succ, Option.getD_some, Nat.reduceSub, List.cons_append, List.nil_append, Bool.false_and]
    exact ⟨_, _, gc_all, _, rfl, hO4.pre⟩
  obtain ⟨t, H, h1, r, rfl, h2⟩ := key
  exact ⟨r, H, h1, h2⟩
end
end Go.Proofs.Ytkgfcdpckfhknaa

namespace Go.Proofs.Ytkgfcdpckfhknaa
open Go Go.Eng
section
variable {Q : Int} {rs : List Rd} {ks : List Int} {u v : AV} {A : AHeap}
theorem gE_n {o i : Int} (h : ¬ nE Q rs [o, i] = 0) : gE Q rs ks o i = nE Q rs [o, i] ∧ gG Q rs ks o i = 0 := by
  have : gE Q rs ks o i = nE Q rs [o, i] := if_neg h
  exact ⟨this, by unfold gG; rw [this, if_neg h]⟩
theorem gE_t {o i : Int} (h : nE Q rs [o, i] = 0) (h2 : ¬ tE Q rs ks = 0) : gE Q rs ks o i = tE Q rs ks ∧ gG Q rs ks o i = 0 := by
  have : gE Q rs ks o i = tE Q rs ks := by unfold gE; rw [if_pos h, if_neg h2]
  exact ⟨this, by unfold gG; rw [this, if_neg h2]⟩
theorem gE_8 {o i : Int} (h : nE Q rs [o, i] = 0) (h2 : tE Q rs ks = 0) (h3 : ¬ swp Q.toNat rs ks o i) : gE Q rs ks o i = 8 ∧ gG Q rs ks o i = 0 := by
  have : gE Q rs ks o i = 8 := by unfold gE; rw [if_pos h, if_pos h2, if_neg h3]
  exact ⟨this, by unfold gG; rw [this, if_neg (by decide)]⟩
theorem gE_s {o i : Int} (h : nE Q rs [o, i] = 0) (h2 : tE Q rs ks = 0) (h3 : swp Q.toNat rs ks o i) : gE Q rs ks o i = 0 ∧ gG Q rs ks o i = wct rs o - wct rs i := by
  have : gE Q rs ks o i = 0 := by unfold gE; rw [if_pos h, if_pos h2, if_pos h3]
  exact ⟨this, by unfold gG; rw [this, if_pos rfl]⟩
set_option maxRecDepth 20000 in
set_option maxHeartbeats 16000000 in
theorem s42 (hu : L3 A u rs) (hP : W Q) (hx : L1 A v ks) (hl : ks.length ≤ 1000000) (o i : Int) : ACalls Try.prog 42 [.agg [I Q, u], v, I o, I i] A (.tuple [I (gG Q rs ks o i), I (gE Q rs ks o i)]) A := by
  refine acalls hmix Try.func42 (by kernel_rfl) t42 4 rfl (by decide) ?_
  dsimp only [m42]
  simp (maxSteps := 4000000) -implicitDefEqProofs -dsimp (disch := omega) only [↓AW_ops, ↓AW_seq, ↓AOps_nil, ↓AOps_pu, ↓AOps_ha, ↓AOps_call, on_some, extK_app, ↓then_normal, pval, hval, rd_S, rd_C, put_S, chkd, bgot, AV.cells?, splice, partA, fillA, repl, eq_self, List.replicate_succ, List.replicate_zero, List.set_cons_zero, List.set_cons_succ, List.getElem?_cons_zero, List.getElem?_cons_succ, List.drop_zero, List.drop_succ_cons, List.drop_nil, List.take_zero, List.take_succ_cons, List.take_nil, Option.getD_some, map_c, map_n, List.length_cons, List.length_nil, Nat.reduceAdd, Nat.reduceSub, Nat.reduceLeDiff, Nat.reduceEqDiff, Nat.zero_add, List.cons_append, List.nil_append, List.append_nil, if_true, if_false, and_true, List.replicate_zero, repl]
  have hpA := pre_app A [AObj.cells true [I o, I i]]
  have huA := hu.mono hpA
  have hxA := hx.mono hpA
  refine CallK.of (s64 huA hP (L1_two A o i) (by simp)) ?_
  by_cases h0 : nE Q rs [o, i] = 0
  case neg =>
    obtain ⟨f1, f2⟩ := gE_n (ks := ks) h0
    rw [f1, f2]
    simp (maxSteps := 4000000) -implicitDefEqProofs -dsimp (disch := omega) only [↓AW_ops, ↓AW_seq, ↓AW_cond, ↓AW_ret, ↓AOps_nil, ↓AOps_pu, on_some, extK_same, condB_t, ↓then_normal, ↓then_ret, ↓Fin_ret, pval, rd_S, rd_C, put_S, resV, resL, List.replicate_succ, List.replicate_zero, List.set_cons_zero, List.set_cons_succ, List.getElem?_cons_zero, List.getElem?_cons_succ, Option.getD_some, Nat.reduceSub, List.cons_append, List.nil_append, bin_neq, decide_true, not_false_eq_true, h0]
    exact gc_val hpA rfl
  simp (maxSteps := 4000000) -implicitDefEqProofs -dsimp (disch := omega) only [↓AW_skip, ↓AW_ops, ↓AW_seq, ↓AW_cond, ↓AOps_nil, ↓AOps_pu, ↓AOps_call, on_some, extK_same, condB_f, ↓then_normal, pval, rd_S, rd_C, put_S, chkd, bgot, partA, eq_self, List.replicate_succ, List.replicate_zero, List.set_cons_zero, List.set_cons_succ, List.getElem?_cons_zero, List.getElem?_cons_succ, List.drop_zero, List.take_succ_cons, List.take_nil, Option.getD_some, map_c, map_n, List.length_cons, List.length_nil, Nat.reduceAdd, Nat.reduceSub, Nat.reduceLeDiff, Nat.reduceEqDiff, Nat.zero_add, List.cons_append, List.nil_append, bin_neq, if_true, if_false, decide_false, not_true_eq_false, h0]
  refine CallK.of (s71 huA hxA hP hl) ?_
  by_cases h1 : tE Q rs ks = 0
  case neg =>
    obtain ⟨f1, f2⟩ := gE_t h0 h1
    rw [f1, f2]
    simp (maxSteps := 4000000) -implicitDefEqProofs -dsimp (disch := omega) only [↓AW_ops, ↓AW_seq, ↓AW_cond, ↓AW_ret, ↓AOps_nil, ↓AOps_pu, on_some, extK_same, condB_t, ↓then_normal, ↓then_ret, ↓Fin_ret, pval, rd_S, rd_C, put_S, resV, resL, List.replicate_succ, List.replicate_zero, List.set_cons_zero, List.set_cons_succ, List.getElem?_cons_zero, List.getElem?_cons_succ, Option.getD_some, Nat.reduceSub, List.cons_append, List.nil_append, bin_neq, decide_true, not_false_eq_true, h1]
    exact gc_val hpA rfl
  simp (maxSteps := 4000000) -implicitDefEqProofs -dsimp (disch := omega) only [↓AW_skip, ↓AW_ops, ↓AW_seq, ↓AW_cond, ↓AOps_nil, ↓AOps_pu, ↓AOps_call, on_some, extK_same, condB_f, ↓then_normal, pval, rd_S, rd_C, put_S, eq_self, List.replicate_succ, List.replicate_zero, List.set_cons_zero, List.set_cons_succ, List.getElem?_cons_zero, List.getElem?_cons_succ, Option.getD_some, map_c, map_n, Nat.reduceSub, List.cons_append, List.nil_append, bin_neq, decide_false, not_true_eq_false, h1]
  refine CallK.of (s51 hxA hl o) ?_
  have h8 : ¬ swp Q.toNat rs ks o i → gE Q rs ks o i = 8 ∧ gG Q rs ks o i = 0 := gE_8 h0 h1
  by_cases ho : o ∈ ks
  case neg =>
    obtain ⟨f1, f2⟩ := h8 (fun h => ho h.1)
    rw [f1, f2, decide_eq_false ho]
    simp (maxSteps := 4000000) -implicitDefEqProofs -dsimp (disch := omega) only [↓AW_ops, ↓AW_seq, ↓AW_cond, ↓AW_ret, ↓AOps_nil, ↓AOps_pu, ↓AOps_guard, on_some, extK_same, guardB_tf, skipS_some, condB_t, ↓then_normal, ↓then_ret, ↓Fin_ret, pval, rd_S, rd_C, put_S, resV, resL, eq_self, List.replicate_succ, List.replicate_zero, List.set_cons_zero, List.set_cons_succ, List.getElem?_cons_zero, List.getElem?_cons_succ, Option.getD_some, Nat.reduceSub, List.cons_append, List.nil_append, if_true, Bool.not_false]
    exact gc_val hpA rfl
  rw [decide_eq_true ho]
  simp (maxSteps := 4000000) -implicitDefEqProofs -dsimp (disch := omega) only [↓AOps_pu, ↓AOps_call, ↓AOps_guard, on_some, extK_same, guardB_ff, pval, rd_S, put_S, List.replicate_succ, List.replicate_zero, List.set_cons_zero, List.set_cons_succ, List.getElem?_cons_zero, List.getElem?_cons_succ, Option.getD_some, map_c, map_n, Nat.reduceSub, List.cons_append, List.nil_append, Bool.not_true]
  refine CallK.of (s51 hxA hl i) ?_
  by_cases hk : i ∈ ks
  · obtain ⟨f1, f2⟩ := h8 (fun h => h.2.1 hk)
    rw [f1, f2, decide_eq_true hk]
    simp (maxSteps := 4000000) -implicitDefEqProofs -dsimp (disch := omega) only [↓AW_ops, ↓AW_seq, ↓AW_cond, ↓AW_ret, ↓AOps_nil, ↓AOps_pu, ↓AOps_guard, on_some, extK_same, guardB_tf, skipS_some, condB_t, ↓then_normal, ↓then_ret, ↓Fin_ret, pval, rd_S, rd_C, put_S, resV, resL, eq_self, List.replicate_succ, List.replicate_zero, List.set_cons_zero, List.set_cons_succ, List.getElem?_cons_zero, List.getElem?_cons_succ, Option.getD_some, Nat.reduceSub, List.cons_append, List.nil_append, if_true, if_false, Bool.false_eq_true]
    exact gc_val hpA rfl
  rw [decide_eq_false hk]
  obtain ⟨hn, ⟨o0, o1⟩, ⟨i0, i1⟩⟩ := nE_2 h0
  obtain ⟨P, rfl⟩ := hn.nat
  have hl14 := hn.l
  simp (maxSteps := 4000000) -implicitDefEqProofs -dsimp (disch := omega) only [↓AOps_pu, ↓AOps_call, ↓AOps_guard, on_some, extK_same, guardB_ff, pval, rd_S, rd_C, put_S, chkd, isAdr, bgot, AV.cells?, partA, eq_self, List.replicate_succ, List.replicate_zero, List.set_cons_zero, List.set_cons_succ, List.getElem?_cons_zero, List.getElem?_cons_succ, List.drop_zero, List.drop_succ_cons, List.take_succ_cons, List.take_nil, Option.getD_some, map_c, map_n, List.length_cons, List.length_nil, Nat.reduceAdd, Nat.reduceSub, Nat.reduceLeDiff, Nat.reduceEqDiff, Nat.zero_add, List.cons_append, List.nil_append, if_true, if_false, Bool.false_eq_true, huA.len]
  obtain ⟨r1, H1, c1, p1, hL⟩ := s88 hxA hl o i rs.length (by omega)
  refine CallK.of c1 ?_
  have huH := huA.mono p1
  have hpH := hpA.trans p1
  have hmn : Nos rs (mkT ks o i rs.length) := fun j hj => by have := (mem_mk.1 hj).1; omega
  have hml : (mkT ks o i rs.length).length ≤ 1000000 := by have := filt_len (fun j => decide (j = i ∨ (¬ j = o ∧ j ∈ ks))) rs.length; unfold mkT; omega
  simp (maxSteps := 4000000) -implicitDefEqProofs -dsimp (disch := omega) only [↓AOps_call, ↓AOps_guard, extK_false, guardB_ff, rd_S, put_S, List.replicate_succ, List.replicate_zero, List.set_cons_zero, List.set_cons_succ, List.getElem?_cons_zero, List.getElem?_cons_succ, Option.getD_some, map_c, map_n, Nat.reduceSub, List.cons_append, List.nil_append]
  refine CallK.of (s87 huH hL hn hmn hml) ?_
  by_cases hT : Tree P (rdx rs) (mkT ks o i rs.length)
  · obtain ⟨f1, f2⟩ := gE_s h0 h1 (show swp (P : Int).toNat rs ks o i from ⟨ho, hk, by rw [Int.toNat_natCast]; exact hT⟩)
    obtain ⟨hro, _⟩ := rdx_at o0 o1
    obtain ⟨hri, _⟩ := rdx_at i0 i1
    have hio := huH.idxI (k := .i64) o0 (show o < (rs.length : Int) by omega)
    have hii := huH.idxI (k := .i64) i0 (show i < (rs.length : Int) by omega)
    have hwo : (rdx rs o).2.2 = wct rs o := rfl
    have hwi : (rdx rs i).2.2 = wct rs i := rfl
    have hbo := hn.wb o0 o1
    have hbi := hn.wb i0 i1
    rw [f1, f2, decide_eq_true hT]
    simp (maxSteps := 4000000) -implicitDefEqProofs -dsimp (disch := omega) only [↓AW_skip, ↓AW_ops, ↓AW_seq, ↓AW_cond, ↓AW_ret, ↓AOps_nil, ↓AOps_pu, ↓AOps_ld, ↓AOps_guard, on_some, extK_same, guardB_ff, condB_f, ↓then_normal, ↓Fin_ret, pval, lval, rd_S, rd_C, put_S, resV, resL, chkd, isAdr, bgot, AV.cells?, partA, eq_self, List.replicate_succ, List.replicate_zero, List.set_cons_zero, List.set_cons_succ, List.getElem?_cons_zero, List.getElem?_cons_succ, List.drop_zero, List.drop_succ_cons, List.take_succ_cons, List.take_nil, Option.getD_some, List.length_cons, List.length_nil, Nat.reduceAdd, Nat.reduceSub, Nat.reduceLeDiff, Nat.zero_add, List.cons_append, List.nil_append, bin_sub, w64, if_true, if_false, Bool.false_eq_true, Bool.not_true, hio, hii, huH.ld hro 1 2 false (by decide), huH.ld hri 1 2 false (by decide), e3, hwo, hwi]
    exact gc_val hpH rfl
  · obtain ⟨f1, f2⟩ := h8 (fun h => hT (by have := h.2.2; rwa [Int.toNat_natCast] at this))
    rw [f1, f2, decide_eq_false hT]
    simp (maxSteps := 4000000) -implicitDefEqProofs -dsimp (disch := omega) only [↓AW_ops, ↓AW_seq, ↓AW_cond, ↓AW_ret, ↓AOps_nil, ↓AOps_pu, ↓AOps_guard, on_some, extK_same, guardB_ff, condB_t, ↓then_normal, ↓then_ret, ↓Fin_ret, pval, rd_S, rd_C, put_S, resV, resL, List.replicate_succ, List.replicate_zero, List.set_cons_zero, List.set_cons_succ, List.getElem?_cons_zero, List.getElem?_cons_succ, Option.getD_some, Nat.reduceSub, List.cons_append, List.nil_append, if_false, Bool.false_eq_true, Bool.not_false]
    exact gc_val hpH rfl
end
end Go.Proofs.Ytkgfcdpckfhknaa

namespace Go.Proofs.Ytkgfcdpckfhknaa
open Go Go.Eng
section
variable {P : Nat} {rs : List Rd} {ks : List Int} {u v : AV} {A : AHeap}
theorem best_le (hn : Net P rs) {T : List Int} (hk : Nos rs T) (hT : Tree P (rdx rs) T) : best rs ≤ cst (wct rs) T := by
  have hO := ordL_ord rs
  have hP := hO.nos.inP hn
  have hTL : ∀ k ∈ T, k ∈ ordL rs := fun k h => hO.mem.2 (hk k h)
  have hG : Tree P (rdx rs) (grw (rdx rs) [] (ordL rs)) := (grw_tree hP (by have := hT.1; omega)).2 (tree_all hTL hT)
  unfold best
  exact grw_opt (M := 99) hP hO.s (hO.wb hn) hTL hT.ind (by have := hT.1; have := hG.1; omega)
/-- No road may be a cheaper one. -/
def noB (P : Nat) (rs : List Rd) (ks : List Int) : Prop := ∀ o i, o ∈ ks → (0 ≤ i ∧ i ≤ (rs.length : Int) - 1) → swp P rs ks o i → wct rs o ≤ wct rs i
theorem noB_iff (hn : Net P rs) (hok : okS rs.length ks) (hT : Tree P (rdx rs) ks) : noB P rs ks ↔ cst (wct rs) ks = best rs := by
  have hO := ordL_ord rs
  have hP := hO.nos.inP hn
  have hkn := okS_nos hok
  have hle := best_le hn hkn hT
  constructor
  · intro h
    have hTL : ∀ k ∈ ks, k ∈ ordL rs := fun k h => hO.mem.2 (hkn k h)
    have h2 : cst (wct rs) ks ≤ best rs := by
      unfold best
      refine local_opt (M := 99) hP hO.s (hO.wb hn) hTL hT (fun X Y g f hp hf hTf => ?_)
      have hg : g ∈ ks := hp.symm.subset (by simp)
      have hfv := hO.mem.1 hf
      have hnd := (hp.nodup_iff).1 (okS_nodup hok)
      rw [List.nodup_cons] at hnd
      by_cases hfk : f ∈ ks
      · rcases List.mem_cons.1 (hp.subset hfk) with e | e
        · rw [e]; exact Int.le_refl _
        · have hPf := hP f hf
          have hI : Ind P (rdx rs f :: (X ++ Y).map (rdx rs)) := hTf.ind
          have hXY : ∀ k ∈ X ++ Y, k ∈ ordL rs := fun k hk => hTL k (hp.symm.subset (List.mem_cons_of_mem _ hk))
          have hIs : Ind P ((X ++ Y).map (rdx rs)) := ind_sub (T := f :: (X ++ Y)) (List.sublist_cons_self _ _) (fun k hk => by
            rcases List.mem_cons.1 hk with e2 | e2
            · rw [e2]; exact hPf
            · exact hP k (hXY k e2)) hI
          exact absurd (Cn.one (List.mem_map_of_mem e)) ((Ind.cons hPf hIs).1 hI)
      · refine h g f hg hfv ⟨hg, hfk, ?_⟩
        have hwp : (without ks g).Perm (X ++ Y) := by
          have h1 : (without ks g).Perm (without (g :: (X ++ Y)) g) := hp.filter _
          have h2 : without (g :: (X ++ Y)) g = X ++ Y := by
            unfold Go.Proofs.Ytkgfcdpckfhknaa.without
            rw [List.filter_cons]
            simp only [decide_true, Bool.not_true, Bool.false_eq_true, if_false]
            rw [List.filter_eq_self]
            intro y hy
            have : ¬ y = g := fun e => hnd.1 (by rw [← e]; exact hy)
            simp [this]
          rw [h2] at h1
          exact h1
        rw [mk_srt hok hfv hfk]
        refine hTf.perm ((srt_perm _).trans ?_)
        exact (hwp.append_right [f]).trans List.perm_append_comm
    omega
  · intro h o i ho hi hs
    refine Classical.byContradiction (fun hn2 => ?_)
    have h1 := cst_mk (w := wct rs) hok hi hs.2.1 hs.1
    have h2 := best_le hn (T := mkT ks o i rs.length) (fun j hj => by have := (mem_mk.1 hj).1; omega) hs.2.2
    omega
/-- What is answered about a cheaper tree. -/
def BA (Q : Int) (rs : List Rd) (ks : List Int) (o i : Int) (is : Bool) : Prop :=
  (is = true ∧ tE Q rs ks = 0 ∧ (0 ≤ o ∧ o ≤ (rs.length : Int) - 1) ∧ (0 ≤ i ∧ i ≤ (rs.length : Int) - 1) ∧ swp Q.toNat rs ks o i ∧ wct rs i < wct rs o) ∨
  (is = false ∧ o = 0 ∧ i = 0 ∧ (tE Q rs ks = 0 → noB Q.toNat rs ks))
end
section
variable {Q : Int} {rs : List Rd} {ks : List Int} {u v : AV} {A : AHeap}
set_option maxRecDepth 20000 in
set_option maxHeartbeats 16000000 in
theorem s41 (hu : L3 A u rs) (hP : W Q) (hx : L1 A v ks) (hl : ks.length ≤ 1000000) : ∃ o i is, ACalls Try.prog 41 [.agg [I Q, u], v] A (.tuple [I o, I i, B is, I (tE Q rs ks)]) A ∧ BA Q rs ks o i is := by
  have key : ∃ r H', ACalls Try.prog 41 [.agg [I Q, u], v] A r H' ∧ ∃ o i is, r = .tuple [I o, I i, B is, I (tE Q rs ks)] ∧ H' = A ∧ BA Q rs ks o i is := by
    refine acallsR hmix Try.func41 (by kernel_rfl) t41 _ 2 rfl (by decide) ?_
    dsimp only [m41]
    simp (maxSteps := 4000000) -implicitDefEqProofs -dsimp (disch := omega) only [↓AW_ops, ↓AW_seq, ↓AOps_nil, ↓AOps_pu, ↓AOps_call, on_some, ↓then_normal, pval, rd_S, rd_C, put_S, chkd, bgot, cells_agg, partA, eq_self, List.replicate_succ, List.replicate_zero, List.set_cons_zero, List.set_cons_succ, List.getElem?_cons_zero, List.getElem?_cons_succ, List.drop_zero, List.take_succ_cons, List.take_nil, Option.getD_some, map_c, map_n, List.length_cons, List.length_nil, Nat.reduceAdd, Nat.reduceSub, Nat.reduceLeDiff, Nat.reduceEqDiff, Nat.zero_add, List.cons_append, List.nil_append, if_true, if_false]
    refine CallK.of (s78 hu hx hP hl) ?_
    by_cases h0 : tE Q rs ks = 0
    case neg =>
      simp (maxSteps := 4000000) -implicitDefEqProofs -dsimp (disch := omega) only [↓AW_ops, ↓AW_seq, ↓AW_cond, ↓AW_ret, ↓AOps_nil, ↓AOps_pu, on_some, extK_same, condB_t, ↓then_normal, ↓then_ret, ↓FinR_ret, pval, rd_S, rd_C, put_S, resV, resL, List.replicate_succ, List.replicate_zero, List.set_cons_zero, List.set_cons_succ, List.getElem?_cons_zero, List.getElem?_cons_succ, Option.getD_some, Nat.reduceSub, List.cons_append, List.nil_append, bin_neq, decide_true, not_false_eq_true, h0]
      exact ⟨_, _, gc_same rfl, 0, 0, false, rfl, rfl, .inr ⟨rfl, rfl, rfl, fun h => absurd h h0⟩⟩
    have hn := tE_net h0
    obtain ⟨P, rfl⟩ := hn.nat
    obtain ⟨_, hok, hTr⟩ := tE_0.1 h0
    have hkn := okS_nos hok
    have hl14 := hn.l
    rw [h0]
    simp (maxSteps := 4000000) -implicitDefEqProofs -dsimp (disch := omega) only [↓AW_skip, ↓AW_ops, ↓AW_seq, ↓AW_cond, ↓AW_block, ↓AOps_nil, ↓AOps_pu, on_some, extK_same, condB_f, ↓then_normal, pval, rd_S, rd_C, put_S, ↓AW_toLoop, eq_self, List.replicate_succ, List.replicate_zero, List.set_cons_zero, List.set_cons_succ, List.getElem?_cons_zero, List.getElem?_cons_succ, Option.getD_some, Nat.reduceSub, List.cons_append, List.nil_append, bin_neq, decide_false, not_true_eq_false, hx.len]
    refine LoopK.by 59 (fun x : Nat × AHeap => x.1 ≤ ks.length ∧ A <+: x.2 ∧ ∀ o i, o ∈ ks.take x.1 → (0 ≤ i ∧ i ≤ (rs.length : Int) - 1) → swp P rs ks o i → wct rs o ≤ wct rs i) (fun x => [(1, v), (2, .agg [I P, u]), (21, v), (22, I ks.length), (23, I x.1)]) (fun x => x.2) (fun x => ks.length - x.1) (0, A) ⟨by simp only; omega, List.prefix_refl _, fun o i ho => by simp at ho⟩ rfl (by simp [Has, rd_s]) rfl ?_
    rintro ⟨t, H⟩ ⟨ht, hp, hno⟩
    simp only at ht hp hno
    have hxH := hx.mono hp
    have huH := hu.mono hp
    by_cases hlt : t < ks.length
    · obtain ⟨o, hz⟩ : ∃ z, ks[t]? = some z := ⟨_, List.getElem?_eq_getElem hlt⟩
      have hlt' : (t : Int) < ks.length := by omega
      have hok2 := List.mem_of_getElem? hz
      obtain ⟨o0, o1⟩ := hkn o hok2
      obtain ⟨hro, _⟩ := rdx_at o0 o1
      simp (maxSteps := 4000000) -implicitDefEqProofs -dsimp (disch := omega) only [↓AW_skip, ↓AW_ops, ↓AW_seq, ↓AW_cond, ↓AW_block, ↓AOps_nil, ↓AOps_pu, ↓AOps_ld, on_some, condB_t, ↓then_normal, pval, lval_ld, rd_S, rd_C, put_S, ↓AW_toLoop, chkd, isAdr, bgot, cells_agg, partA, eq_self, mk, List.foldl_cons, List.foldl_nil, List.replicate_succ, List.replicate_zero, List.set_cons_zero, List.set_cons_succ, List.getElem?_cons_zero, List.getElem?_cons_succ, List.drop_zero, List.drop_succ_cons, List.take_succ_cons, List.take_nil, Option.getD_some, List.length_cons, List.length_nil, Nat.reduceAdd, Nat.reduceLeDiff, Nat.zero_add, bin_lss, if_true, if_false, Bool.false_eq_true, decide_true, Go.Eng.e1, hlt', hxH.idx hlt, hxH.ld0 hz 1 false (by decide), huH.len]
      have hz2 := hz
      have hlt2 := hlt
      clear hz hlt'
      refine LoopK.by 59 (fun x : Nat × AHeap => x.1 ≤ rs.length ∧ A <+: x.2 ∧ ∀ i, 0 ≤ i → i < (x.1 : Int) → swp P rs ks o i → wct rs o ≤ wct rs i) (fun x => [(1, v), (2, .agg [I P, u]), (10, I o), (21, v), (22, I ks.length), (23, I t), (28, u), (29, I rs.length), (30, I x.1)]) (fun x => x.2) (fun x => rs.length - x.1) (0, H) ⟨by simp only; omega, hp, fun i h1 h2 => by simp only at h2; omega⟩ rfl (by simp [Has, rd_s]) rfl ?_
      rintro ⟨j, H1⟩ ⟨hj, hp1, hno1⟩
      simp only at hj hp1 hno1
      have hxH1 := hx.mono hp1
      have huH1 := hu.mono hp1
      by_cases hlt : j < rs.length
      · obtain ⟨z, hz⟩ : ∃ z, rs[j]? = some z := ⟨_, List.getElem?_eq_getElem hlt⟩
        have hlt' : (j : Int) < rs.length := by omega
        obtain ⟨hr, _⟩ := rdx_at (rs := rs) (k := (j : Int)) (by omega) (by omega)
        rw [Int.toNat_natCast, hz] at hr
        have hwe : z.2.2 = wct rs j := by rw [Option.some.inj hr]; rfl
        obtain ⟨r2, H2, c2, p2⟩ := s86 huH1 hxH1 hn hok hTr o (j : Int) (by omega)
        have hp2 := hp1.trans p2
        have huH2 := hu.mono hp2
        have hio := huH2.idxI (k := .i64) o0 (show o < (rs.length : Int) by omega)
        have hwo : (rdx rs o).2.2 = wct rs o := rfl
        simp (maxSteps := 4000000) -implicitDefEqProofs -dsimp (disch := omega) only [↓AW_skip, ↓AW_ops, ↓AW_seq, ↓AW_cond, ↓AW_block, ↓AOps_nil, ↓AOps_pu, ↓AOps_ld, ↓AOps_call, on_some, condB_t, ↓then_normal, pval, lval_ld, rd_S, rd_C, put_S, chkd, bput, bgot, cells_agg, splice, partA, eq_self, mk, List.foldl_cons, List.foldl_nil, List.replicate_succ, List.replicate_zero, List.set_cons_zero, List.set_cons_succ, List.getElem?_cons_zero, List.getElem?_cons_succ, List.drop_zero, List.drop_succ_cons, List.drop_nil, List.take_zero, List.take_succ_cons, List.take_nil, Option.getD_some, map_c, map_n, List.length_cons, List.length_nil, Nat.reduceAdd, Nat.reduceLeDiff, Nat.reduceEqDiff, Nat.zero_add, List.nil_append, List.append_nil, bin_lss, if_true, if_false, decide_true, ne_eq, not_true_eq_false, hlt', huH1.idx hlt, huH1.ld0 hz 3 true (by decide), e3]
        refine CallK.of c2 ?_
        have hnext : (swp P rs ks o (j : Int) → wct rs o ≤ wct rs (j : Int)) → ∀ i, 0 ≤ i → i < ((j + 1 : Nat) : Int) → swp P rs ks o i → wct rs o ≤ wct rs i := fun h i i0 i1 => by
          by_cases hij : i = (j : Int)
          · rw [hij]; exact h
          · exact hno1 i i0 (by omega)
        by_cases hs : swp P rs ks o (j : Int)
        · rw [decide_eq_true hs]
          by_cases hw : wct rs (j : Int) < wct rs o
          · have hb := hn.wb o0 o1
            simp (maxSteps := 4000000) -implicitDefEqProofs -dsimp (disch := omega) only [↓AW_ops, ↓AW_seq, ↓AW_cond, ↓AW_ret, ↓AOps_nil, ↓AOps_pu, ↓AOps_ld, ↓AOps_guard, on_some, extK_false, guardB_tt, condB_t, ↓then_normal, ↓then_ret, ↓inBlock_ret, ↓FinR_ret, pval, lval_ld, rd_S, rd_C, put_S, resV, resL, chkd, isAdr, bgot, cells_agg, partA, eq_self, mk, List.foldl_cons, List.foldl_nil, List.replicate_succ, List.replicate_zero, List.set_cons_zero, List.set_cons_succ, List.getElem?_cons_zero, List.getElem?_cons_succ, List.drop_zero, List.drop_succ_cons, List.take_succ_cons, List.take_nil, Option.getD_some, List.length_cons, List.length_nil, Nat.reduceAdd, Nat.reduceLeDiff, Nat.zero_add, bin_lss, if_true, if_false, Bool.false_eq_true, decide_true, hio, huH2.ld hro 1 2 false (by decide), e3, hwo, hwe, hw]
            exact ⟨_, _, gc_val hp2 rfl, o, (j : Int), true, rfl, rfl, .inl ⟨rfl, h0, ⟨o0, o1⟩, by omega, by rw [Int.toNat_natCast]; exact hs, hw⟩⟩
          · simp (maxSteps := 4000000) -implicitDefEqProofs -dsimp (disch := omega) only [↓AW_skip, ↓AW_ops, ↓AW_seq, ↓AW_cond, ↓AOps_nil, ↓AOps_pu, ↓AOps_ld, ↓AOps_guard, on_some, extK_false, guardB_tt, condB_f, ↓then_normal, ↓inBlock_normal, pval, lval_ld, rd_S, rd_C, put_S, chkd, isAdr, bgot, cells_agg, partA, eq_self, mk, List.foldl_cons, List.foldl_nil, List.replicate_succ, List.replicate_zero, List.set_cons_zero, List.set_cons_succ, List.getElem?_cons_zero, List.getElem?_cons_succ, List.drop_zero, List.drop_succ_cons, List.take_succ_cons, List.take_nil, Option.getD_some, List.length_cons, List.length_nil, Nat.reduceAdd, Nat.reduceLeDiff, Nat.zero_add, bin_add, bin_lss, w64, if_true, if_false, Bool.false_eq_true, decide_false, true_and, hio, huH2.ld hro 1 2 false (by decide), e3, hwo, hwe, hw]
            exact ⟨(j + 1, H2), ⟨hlt, hp2, hnext (fun _ => by omega)⟩, by simp [Has, rd_s], rfl, by simp only; omega⟩
        · rw [decide_eq_false hs]
          simp (maxSteps := 4000000) -implicitDefEqProofs -dsimp (disch := omega) only [↓AW_skip, ↓AW_ops, ↓AW_seq, ↓AW_cond, ↓AOps_nil, ↓AOps_pu, ↓AOps_guard, on_some, extK_false, guardB_ft, skipS_some, condB_f, ↓then_normal, ↓inBlock_normal, pval, rd_S, rd_C, put_S, eq_self, mk, List.foldl_cons, List.foldl_nil, List.replicate_succ, List.replicate_zero, List.set_cons_zero, List.set_cons_succ, List.getElem?_cons_zero, List.getElem?_cons_succ, Option.getD_some, List.length_cons, List.length_nil, Nat.reduceAdd, Nat.zero_add, bin_add, w64, if_false, Bool.false_eq_true, true_and]
          exact ⟨(j + 1, H2), ⟨hlt, hp2, hnext (fun h => absurd h hs)⟩, by simp [Has, rd_s], rfl, by simp only; omega⟩
      · have hlt' : ¬ ((j : Int) < rs.length) := by omega
        simp (maxSteps := 4000000) -implicitDefEqProofs -dsimp (disch := omega) only [↓AW_ops, ↓AW_seq, ↓AW_cond, ↓AW_exit, ↓AW_ret, ↓AOps_nil, ↓AOps_pu, on_some, condB_f, ↓then_normal, ↓then_exit, ↓inBlock_normal, ↓inBlock_exit, ↓FinR_ret, pval, rd_S, rd_C, put_S, resV, resL, eq_self, mk, List.foldl_cons, List.foldl_nil, List.replicate_succ, List.replicate_zero, List.set_cons_zero, List.set_cons_succ, List.getElem?_cons_zero, List.getElem?_cons_succ, Option.getD_some, List.length_cons, List.length_nil, Nat.reduceAdd, Nat.reduceEqDiff, Nat.zero_add, bin_add, bin_lss, w64, if_true, if_false, decide_false, true_and, reduceCtorEq, hlt']
        refine ⟨(t + 1, H1), ⟨hlt2, hp1, fun o' i ho' hi => ?_⟩, by simp [Has, rd_s], rfl, by simp only; omega⟩
        simp only at ho'
        rw [List.take_add_one, hz2] at ho'
        rcases List.mem_append.1 ho' with h | h
        · exact hno o' i h hi
        · have : o' = o := by simpa using h
          rw [this]
          exact hno1 i hi.1 (by omega)
    · have hlt' : ¬ ((t : Int) < ks.length) := by omega
      rw [List.take_of_length_le (by omega)] at hno
      simp (maxSteps := 4000000) -implicitDefEqProofs -dsimp (disch := omega) only [↓AW_ops, ↓AW_seq, ↓AW_cond, ↓AW_exit, ↓AW_ret, ↓AOps_nil, ↓AOps_pu, on_some, condB_f, ↓then_normal, ↓then_exit, ↓inBlock_exit, ↓FinR_ret, pval, rd_S, rd_C, put_S, resV, resL, eq_self, mk, List.foldl_cons, List.foldl_nil, List.replicate_succ, List.replicate_zero, List.set_cons_zero, List.set_cons_succ, List.getElem?_cons_zero, List.getElem?_cons_succ, Option.getD_some, bin_lss, if_true, decide_false, hlt']
      exact ⟨_, _, gc_val hp rfl, 0, 0, false, rfl, rfl, .inr ⟨rfl, rfl, rfl, fun _ => by rw [Int.toNat_natCast]; exact hno⟩⟩
  obtain ⟨r, H', h1, o, i, is, rfl, rfl, h2⟩ := key
  exact ⟨o, i, is, h1, h2⟩
set_option maxRecDepth 20000 in
set_option maxHeartbeats 16000000 in
theorem s12 (hu : L3 A u rs) (hP : W Q) (hx : L1 A v ks) : ACalls Try.prog 12 [.agg [I Q, u], v] A (B true) A := by
  refine acalls hmix Try.func12 (by kernel_rfl) t12 2 rfl (by decide) ?_
  dsimp only [m12]
  simp (maxSteps := 4000000) -implicitDefEqProofs -dsimp (disch := omega) only [↓AW_ops, ↓AW_seq, ↓AOps_nil, ↓AOps_pu, ↓AOps_call, on_some, ↓then_normal, pval, rd_S, rd_C, put_S, chkd, bgot, AV.cells?, partA, eq_self, List.replicate_succ, List.replicate_zero, List.set_cons_zero, List.set_cons_succ, List.getElem?_cons_zero, List.getElem?_cons_succ, List.drop_zero, List.take_succ_cons, List.take_nil, Option.getD_some, map_c, map_n, List.length_cons, List.length_nil, Nat.reduceAdd, Nat.reduceSub, Nat.reduceLeDiff, Nat.reduceEqDiff, Nat.zero_add, List.cons_append, List.nil_append, if_true, if_false]
  refine CallK.of (s17 hu Q) ?_
  by_cases h1 : (100 : Int) < rs.length
  · simp (maxSteps := 4000000) -implicitDefEqProofs -dsimp (disch := omega) only [↓AW_ops, ↓AW_seq, ↓AW_cond, ↓AOps_nil, ↓AOps_pu, ↓AOps_call, ↓AOps_guard, on_some, extK_same, guardB_tf, skipS_some, condB_t, ↓then_normal, pval, rd_S, rd_C, put_S, eq_self, List.replicate_succ, List.replicate_zero, List.set_cons_zero, List.set_cons_succ, List.getElem?_cons_zero, List.getElem?_cons_succ, Option.getD_some, map_n, Nat.reduceSub, List.cons_append, List.nil_append, if_true, decide_true, h1]
    refine CallK.of (known A) ?_
    simp (maxSteps := 4000000) -implicitDefEqProofs -dsimp (disch := omega) only [↓AW_ret, ↓AOps_nil, ↓AOps_pu, on_some, extK_same, skipS_some, ↓then_normal, ↓then_ret, ↓Fin_ret, pval, rd_S, put_S, resV, resL, List.replicate_succ, List.replicate_zero, List.set_cons_zero, List.set_cons_succ, List.getElem?_cons_zero, List.getElem?_cons_succ, Option.getD_some, Nat.reduceSub, List.cons_append, List.nil_append]
    exact gc_same rfl
  by_cases h2 : (100 : Int) < ks.length
  · simp (maxSteps := 4000000) -implicitDefEqProofs -dsimp (disch := omega) only [↓AW_ops, ↓AW_seq, ↓AW_cond, ↓AOps_nil, ↓AOps_pu, ↓AOps_call, ↓AOps_guard, on_some, extK_same, guardB_ff, condB_t, ↓then_normal, pval, rd_S, rd_C, put_S, List.replicate_succ, List.replicate_zero, List.set_cons_zero, List.set_cons_succ, List.getElem?_cons_zero, List.getElem?_cons_succ, Option.getD_some, map_n, Nat.reduceSub, List.cons_append, List.nil_append, bin_gtr, if_false, Bool.false_eq_true, decide_true, decide_false, h1, hx.len, h2]
    refine CallK.of (known A) ?_
    simp (maxSteps := 4000000) -implicitDefEqProofs -dsimp (disch := omega) only [↓AW_ret, ↓AOps_nil, ↓AOps_pu, on_some, extK_same, ↓then_normal, ↓then_ret, ↓Fin_ret, pval, rd_S, put_S, resV, resL, List.replicate_succ, List.replicate_zero, List.set_cons_zero, List.set_cons_succ, List.getElem?_cons_zero, List.getElem?_cons_succ, Option.getD_some, Nat.reduceSub, List.cons_append, List.nil_append]
    exact gc_same rfl
  have hl : ks.length ≤ 1000000 := by omega
  simp (maxSteps := 4000000) -implicitDefEqProofs -dsimp (disch := omega) only [↓AW_skip, ↓AW_ops, ↓AW_seq, ↓AW_cond, ↓AOps_nil, ↓AOps_pu, ↓AOps_call, ↓AOps_guard, on_some, extK_same, guardB_ff, condB_f, ↓then_normal, pval, rd_S, rd_C, put_S, chkd, bgot, partA, eq_self, List.replicate_succ, List.replicate_zero, List.set_cons_zero, List.set_cons_succ, List.getElem?_cons_zero, List.getElem?_cons_succ, List.drop_zero, List.take_succ_cons, List.take_nil, Option.getD_some, map_c, map_n, List.length_cons, List.length_nil, Nat.reduceAdd, Nat.reduceSub, Nat.reduceLeDiff, Nat.reduceEqDiff, Nat.zero_add, List.cons_append, List.nil_append, bin_gtr, if_true, if_false, Bool.false_eq_true, decide_false, h1, hx.len, h2]
  obtain ⟨o, i, is, c1, hB⟩ := s41 hu hP hx hl
  refine CallK.of c1 ?_
  simp (maxSteps := 4000000) -implicitDefEqProofs -dsimp (disch := omega) only [↓AW_ops, ↓AW_seq, ↓AOps_nil, ↓AOps_pu, ↓AOps_call, on_some, extK_same, ↓then_normal, pval, rd_S, put_S, chkd, bgot, partA, eq_self, List.replicate_succ, List.replicate_zero, List.set_cons_zero, List.set_cons_succ, List.getElem?_cons_zero, List.getElem?_cons_succ, List.drop_zero, List.take_succ_cons, List.take_nil, Option.getD_some, map_c, map_n, List.length_cons, List.length_nil, Nat.reduceAdd, Nat.reduceSub, Nat.reduceLeDiff, Nat.reduceEqDiff, Nat.zero_add, List.cons_append, List.nil_append, if_true, if_false]
  refine CallK.of (s24 hu hx hP hl) ?_
  by_cases h0 : tE Q rs ks = 0
  case neg =>
    rcases hB with ⟨_, h, _⟩ | ⟨rfl, rfl, rfl, _⟩
    · exact absurd h h0
    · simp (maxSteps := 4000000) -implicitDefEqProofs -dsimp (disch := omega) only [↓AW_skip, ↓AW_ops, ↓AW_seq, ↓AW_cond, ↓AOps_nil, ↓AOps_pu, ↓AOps_call, ↓AOps_guard, on_some, extK_same, guardB_tt, condB_t, condB_f, ↓then_normal, pval, rd_S, rd_C, put_S, eq_self, List.replicate_succ, List.replicate_zero, List.set_cons_zero, List.set_cons_succ, List.getElem?_cons_zero, List.getElem?_cons_succ, Option.getD_some, map_n, Nat.reduceSub, List.cons_append, List.nil_append, bin_eql, bin_neq, if_true, Bool.not_false, decide_true, decide_false, not_true_eq_false, not_false_eq_true, h0]
      refine CallK.of (known A) ?_
      simp (maxSteps := 4000000) -implicitDefEqProofs -dsimp (disch := omega) only [↓AW_ret, ↓AOps_nil, ↓AOps_pu, on_some, extK_same, ↓then_normal, ↓then_ret, ↓Fin_ret, pval, rd_S, rd_C, put_S, resV, resL, eq_self, List.replicate_succ, List.replicate_zero, List.set_cons_zero, List.set_cons_succ, List.getElem?_cons_zero, List.getElem?_cons_succ, Option.getD_some, Nat.reduceSub, List.cons_append, List.nil_append, if_true]
      exact gc_same rfl
  have hn := tE_net h0
  obtain ⟨P, rfl⟩ := hn.nat
  obtain ⟨_, hok, hTr⟩ := tE_0.1 h0
  have hiff := noB_iff hn hok hTr
  rw [h0]
  simp (maxSteps := 4000000) -implicitDefEqProofs -dsimp (disch := omega) only [↓AW_skip, ↓AW_ops, ↓AW_seq, ↓AW_cond, ↓AOps_nil, ↓AOps_pu, ↓AOps_call, on_some, extK_same, condB_f, ↓then_normal, pval, rd_S, rd_C, put_S, chkd, bgot, partA, eq_self, List.replicate_succ, List.replicate_zero, List.set_cons_zero, List.set_cons_succ, List.getElem?_cons_zero, List.getElem?_cons_succ, List.drop_zero, List.take_succ_cons, List.take_nil, Option.getD_some, map_c, map_n, List.length_cons, List.length_nil, Nat.reduceAdd, Nat.reduceSub, Nat.reduceLeDiff, Nat.reduceEqDiff, Nat.zero_add, List.cons_append, List.nil_append, bin_neq, if_true, if_false, decide_false, not_true_eq_false]
  refine CallK.of (s34 hu hx hP hl) ?_
  rw [iC_0 h0, h0]
  rcases hB with ⟨rfl, _, ho, hi, hs, hw⟩ | ⟨rfl, rfl, rfl, hnb⟩
  · rw [Int.toNat_natCast] at hs
    have hne : ¬ cst (wct rs) ks = best rs := fun h => by have := hiff.2 h o i hs.1 hi hs; omega
    rw [decide_eq_false hne]
    simp (maxSteps := 4000000) -implicitDefEqProofs -dsimp (disch := omega) only [↓AW_skip, ↓AW_ops, ↓AW_seq, ↓AW_cond, ↓AOps_nil, ↓AOps_pu, ↓AOps_call, ↓AOps_guard, on_some, extK_same, guardB_ff, condB_f, ↓then_normal, pval, rd_S, rd_C, put_S, chkd, bgot, partA, eq_self, List.replicate_succ, List.replicate_zero, List.set_cons_zero, List.set_cons_succ, List.getElem?_cons_zero, List.getElem?_cons_succ, List.drop_zero, List.take_succ_cons, List.take_nil, Option.getD_some, map_c, map_n, List.length_cons, List.length_nil, Nat.reduceAdd, Nat.reduceSub, Nat.reduceLeDiff, Nat.reduceEqDiff, Nat.zero_add, List.cons_append, List.nil_append, bin_neq, if_true, if_false, Bool.false_eq_true, Bool.not_true, Bool.not_false, decide_false, not_true_eq_false, bq1]
    refine CallK.of (s42 hu hP hx hl o i) ?_
    have hnE : nE P rs [o, i] = 0 := by
      unfold nE
      rw [if_pos (vE_0.2 hn), if_neg (notOf_of (fun k hk => by
        rcases List.mem_cons.1 hk with e | e
        · rw [e]; exact ho
        · rw [List.mem_singleton.1 e]; exact hi))]
    obtain ⟨f1, f2⟩ := gE_s hnE h0 (show swp (P : Int).toNat rs ks o i by rw [Int.toNat_natCast]; exact hs)
    have hpos : 0 < wct rs o - wct rs i := by omega
    rw [f1, f2]
    simp (maxSteps := 4000000) -implicitDefEqProofs -dsimp (disch := omega) only [↓AW_ops, ↓AW_seq, ↓AOps_nil, ↓AOps_pu, ↓AOps_call, ↓AOps_guard, on_some, extK_same, guardB_tt, ↓then_normal, pval, rd_S, rd_C, put_S, eq_self, List.replicate_succ, List.replicate_zero, List.set_cons_zero, List.set_cons_succ, List.getElem?_cons_zero, List.getElem?_cons_succ, Option.getD_some, map_n, Nat.reduceSub, List.cons_append, List.nil_append, bin_eql, bin_gtr, if_true, decide_true, hpos]
    refine CallK.of (known A) ?_
    simp (maxSteps := 4000000) -implicitDefEqProofs -dsimp (disch := omega) only [↓AW_ret, ↓AOps_nil, ↓AOps_pu, on_some, extK_same, ↓then_normal, ↓Fin_ret, pval, rd_S, rd_C, put_S, resV, resL, eq_self, List.replicate_succ, List.replicate_zero, List.set_cons_zero, List.set_cons_succ, List.getElem?_cons_zero, List.getElem?_cons_succ, Option.getD_some, Nat.reduceSub, List.cons_append, List.nil_append, if_true]
    exact gc_same rfl
  · have h3 := hnb h0
    rw [Int.toNat_natCast] at h3
    rw [decide_eq_true (hiff.1 h3)]
    simp (maxSteps := 4000000) -implicitDefEqProofs -dsimp (disch := omega) only [↓AW_skip, ↓AW_ops, ↓AW_seq, ↓AW_cond, ↓AOps_nil, ↓AOps_pu, ↓AOps_call, ↓AOps_guard, on_some, extK_same, guardB_tt, guardB_ff, condB_t, condB_f, ↓then_normal, pval, rd_S, rd_C, put_S, eq_self, List.replicate_succ, List.replicate_zero, List.set_cons_zero, List.set_cons_succ, List.getElem?_cons_zero, List.getElem?_cons_succ, Option.getD_some, map_n, Nat.reduceSub, List.cons_append, List.nil_append, bin_eql, bin_neq, if_true, if_false, Bool.false_eq_true, Bool.not_false, decide_true, decide_false, not_true_eq_false, bq2]
    refine CallK.of (known A) ?_
    simp (maxSteps := 4000000) -implicitDefEqProofs -dsimp (disch := omega) only [↓AW_ret, ↓AOps_nil, ↓AOps_pu, on_some, extK_same, ↓then_normal, ↓then_ret, ↓Fin_ret, pval, rd_S, rd_C, put_S, resV, resL, eq_self, List.replicate_succ, List.replicate_zero, List.set_cons_zero, List.set_cons_succ, List.getElem?_cons_zero, List.getElem?_cons_succ, Option.getD_some, Nat.reduceSub, List.cons_append, List.nil_append, if_true]
    exact gc_same rfl
end
end Go.Proofs.Ytkgfcdpckfhknaa

