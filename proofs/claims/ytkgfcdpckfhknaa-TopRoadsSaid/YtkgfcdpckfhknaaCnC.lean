/- What the law's proof rests on, part 5: for all that is said in each line. No conditions. -/
import Derived.Test.YtkgfcdpckfhknaaRows
import Derived.Test.YtkgfcdpckfhknaaCnB
namespace Go.Proofs.Ytkgfcdpckfhknaa
open Go Go.Eng
/-- The net's roads but one. -/
def but (rs : List Rd) (k : Int) : List Int := (nums rs).filter (fun i => decide (¬ i = k))
section
variable {Q : Int} {rs : List Rd} {ks : List Int} {u v : AV} {A : AHeap}
theorem orE_v (x : Int) (p : Prop) [Decidable p] : orE [x, if p then 4 else 0] = if x = 0 then (if p then 4 else 0) else x := by
  unfold orE orE orE
  by_cases h : p
  · simp [h]
  · simp [h]
/-- Up to which cost a road is in some cheapest tree. -/
noncomputable def rgC (rs : List Rd) (k : Int) : Int := (bt rs (but rs k) (rdx rs k).1 (rdx rs k).2.1).getD 99
def rgJ (Q : Int) (rs : List Rd) (k : Int) : Prop := nE Q rs [k] = 0 ∧ Jbl Q.toNat rs
noncomputable instance rgJdec (Q : Int) (rs : List Rd) (k : Int) : Decidable (rgJ Q rs k) := Classical.propDecidable _
noncomputable def rgA (Q : Int) (rs : List Rd) (k : Int) : Int := if rgJ Q rs k then rgC rs k else 0
theorem nE_1 {k : Int} (h : nE Q rs [k] = 0) : Net Q rs ∧ (0 ≤ k ∧ k ≤ (rs.length : Int) - 1) := by
  unfold nE at h
  by_cases h0 : vE Q rs = 0
  · rw [if_pos h0] at h
    by_cases h1 : notOf rs.length [k] = true
    · rw [if_pos h1] at h; cases h
    · have := notOf_nos h1 k (by simp)
      exact ⟨vE_0.1 h0, by omega⟩
  · rw [if_neg h0] at h; exact absurd h h0
set_option maxRecDepth 20000 in
set_option maxHeartbeats 16000000 in
theorem s19 (hu : L3 A u rs) (hP : W Q) (k : Int) (hl : rs.length ≤ 1000000) : ACalls Try.prog 19 [.agg [I Q, u], I k] A (.tuple [I (rgA Q rs k), B (decide (rgJ Q rs k)), I (nE Q rs [k])]) A := by
  refine acalls hmix Try.func19 (by kernel_rfl) t19 2 rfl (by decide) ?_
  dsimp only [m19]
  simp (maxSteps := 4000000) -implicitDefEqProofs -dsimp (disch := omega) only [↓AW_ops, ↓AW_seq, ↓AOps_nil, ↓AOps_pu, ↓AOps_ha, ↓AOps_call, on_some, extK_app, ↓then_normal, pval, hval, rd_S, rd_C, put_S, chkd, isAdr, bgot, AV.cells?, splice, partA, fillA, repl, eq_self, List.replicate_succ, List.replicate_zero, List.set_cons_zero, List.set_cons_succ, List.getElem?_cons_zero, List.getElem?_cons_succ, List.drop_zero, List.drop_succ_cons, List.drop_nil, List.take_zero, List.take_succ_cons, List.take_nil, Option.getD_some, map_c, map_n, List.length_cons, List.length_nil, Nat.reduceAdd, Nat.reduceSub, Nat.reduceLeDiff, Nat.reduceEqDiff, Nat.zero_add, List.cons_append, List.nil_append, List.append_nil, if_true, if_false, Bool.false_eq_true, and_true, ↓AW_ops2, hu.len, List.replicate_zero, repl]
  have hpA := pre_app A [AObj.cells true [I k]]
  have hE : (if vE Q rs = 0 then (if notOf (rs.length : Int) [k] = true then 4 else 0) else vE Q rs) = nE Q rs [k] := rfl
  have hp2 : A <+: A ++ [AObj.cells true [I k]] ++ [AObj.cells true [I (vE Q rs), I (if notOf (rs.length : Int) [k] = true then 4 else 0)]] := hpA.trans (pre_app _ _)
  refine ⟨?_, ?_⟩
  · refine CallK.of (s28 hu hP) ?_
    simp (maxSteps := 4000000) -implicitDefEqProofs -dsimp (disch := omega) only [↓AOps_pu, ↓AOps_ha, ↓AOps_call, on_some, extK_app, extK_same, pval, hval, rd_S, put_S, chkd, isAdr, bgot, AV.cells?, splice, partA, fillA, repl, eq_self, List.replicate_succ, List.replicate_zero, List.set_cons_zero, List.set_cons_succ, List.getElem?_cons_zero, List.getElem?_cons_succ, List.drop_zero, List.drop_succ_cons, List.drop_nil, List.take_zero, List.take_succ_cons, List.take_nil, Option.getD_some, map_c, map_n, List.length_cons, List.length_nil, Nat.reduceAdd, Nat.reduceSub, Nat.reduceLeDiff, Nat.zero_add, List.cons_append, List.nil_append, List.append_nil, if_true, if_false, Bool.false_eq_true, and_true, hu.len, List.replicate_zero, repl]
    refine CallK.of (s58 (L1_one A k) (by simp) (c := rs.length) (by omega)) ?_
    simp (maxSteps := 4000000) -implicitDefEqProofs -dsimp (disch := omega) only [↓AOps_ha, ↓AOps_call, on_some, extK_app, extK_same, hval, rd_S, put_S, AV.cells?, splice, fillA, repl, eq_self, List.replicate_succ, List.replicate_zero, List.set_cons_zero, List.set_cons_succ, List.getElem?_cons_zero, List.getElem?_cons_succ, List.drop_zero, List.drop_succ_cons, List.drop_nil, List.take_zero, List.take_succ_cons, Option.getD_some, map_c, map_n, List.length_cons, List.length_nil, Nat.reduceAdd, Nat.reduceSub, Nat.reduceLeDiff, Nat.zero_add, List.cons_append, List.nil_append, List.append_nil, if_true, and_true, List.replicate_zero, repl]
    refine CallK.of (s57 (L1_two _ _ _) (by simp)) ?_
    rw [orE_v, hE]
    generalize A ++ [AObj.cells true [I k]] ++ [AObj.cells true [I (vE Q rs), I (if notOf (rs.length : Int) [k] = true then 4 else 0)]] = A2 at hp2 ⊢
    have hu2 := hu.mono hp2
    by_cases h0 : nE Q rs [k] = 0
    case neg =>
      have e1 : rgA Q rs k = 0 := if_neg (fun h => h0 h.1)
      rw [e1, decide_eq_false (fun h : rgJ Q rs k => h0 h.1)]
      simp (maxSteps := 4000000) -implicitDefEqProofs -dsimp (disch := omega) only [↓AW_ops, ↓AW_seq, ↓AW_cond, ↓AW_ret, ↓AOps_nil, ↓AOps_pu, on_some, extK_same, condB_t, ↓then_normal, ↓then_ret, ↓Fin_ret, pval, rd_S, rd_C, put_S, resV, resL, List.replicate_succ, List.replicate_zero, List.set_cons_zero, List.set_cons_succ, List.getElem?_cons_zero, List.getElem?_cons_succ, Option.getD_some, Nat.reduceSub, List.cons_append, List.nil_append, bin_neq, decide_true, not_false_eq_true, h0]
      exact gc_val hp2 rfl
    obtain ⟨hn, k0, k1⟩ := nE_1 h0
    obtain ⟨P, rfl⟩ := hn.nat
    have hl14 := hn.l
    have hP7 := hn.p7
    rw [h0]
    simp (maxSteps := 4000000) -implicitDefEqProofs -dsimp (disch := omega) only [↓AW_skip, ↓AW_ops, ↓AW_seq, ↓AW_cond, ↓AOps_nil, ↓AOps_pu, ↓AOps_call, on_some, extK_same, condB_f, ↓then_normal, pval, rd_S, rd_C, put_S, chkd, bgot, partA, eq_self, List.replicate_succ, List.replicate_zero, List.set_cons_zero, List.set_cons_succ, List.getElem?_cons_zero, List.getElem?_cons_succ, List.drop_zero, List.take_succ_cons, List.take_nil, Option.getD_some, map_c, map_n, List.length_cons, List.length_nil, Nat.reduceAdd, Nat.reduceSub, Nat.reduceLeDiff, Nat.reduceEqDiff, Nat.zero_add, List.cons_append, List.nil_append, bin_neq, if_true, if_false, decide_false, not_true_eq_false]
    obtain ⟨r1, H1, c1, p1, L, hL, hO⟩ := c_all hu2 hn
    refine CallK.of c1 ?_
    simp (maxSteps := 4000000) -implicitDefEqProofs -dsimp (disch := omega) only [↓AW_ops, ↓AW_seq, ↓AOps_nil, ↓AOps_pu, ↓AOps_call, on_some, extK_false, ↓then_normal, pval, rd_S, put_S, chkd, bgot, partA, eq_self, List.replicate_succ, List.replicate_zero, List.set_cons_zero, List.set_cons_succ, List.getElem?_cons_zero, List.getElem?_cons_succ, List.drop_zero, List.take_succ_cons, List.take_nil, Option.getD_some, map_c, map_n, List.length_cons, List.length_nil, Nat.reduceAdd, Nat.reduceSub, Nat.reduceLeDiff, Nat.reduceEqDiff, Nat.zero_add, List.cons_append, List.nil_append, if_true, if_false]
    obtain ⟨r2, H2, c2, p2, hG⟩ := c_grow (hu2.mono p1) hL hn hO.nos (by rw [hO.len]; omega)
    refine CallK.of c2 ?_
    simp (maxSteps := 4000000) -implicitDefEqProofs -dsimp (disch := omega) only [↓AOps_call, extK_false, rd_S, put_S, List.replicate_succ, List.replicate_zero, List.set_cons_zero, List.set_cons_succ, List.getElem?_cons_zero, List.getElem?_cons_succ, Option.getD_some, map_c, map_n, Nat.reduceSub, List.cons_append, List.nil_append]
    have hgn : Nos rs (srt (grw (rdx rs) [] L)) := fun k hk => grw_nos hO.nos k ((srt_perm _).mem_iff.1 hk)
    have hsm := grw_small hn hO.nos
    have hpH := hp2.trans (p1.trans p2)
    have huH := hu.mono hpH
    refine CallK.of (s60 huH hG hn hgn (by rw [srt_len]; omega)) ?_
    by_cases hj : Jbl P rs
    case neg =>
      have hjj : ¬ rgJ P rs k := fun h => hj (by have := h.2; rwa [Int.toNat_natCast] at this)
      have e1 : rgA P rs k = 0 := if_neg hjj
      rw [e1, decide_eq_false hjj, decide_eq_false (fun hh => hj ((jbl_grw hn hO).1 hh))]
      simp (maxSteps := 4000000) -implicitDefEqProofs -dsimp (disch := omega) only [↓AW_ops, ↓AW_seq, ↓AW_cond, ↓AW_ret, ↓AOps_nil, ↓AOps_pu, on_some, extK_same, condB_t, ↓then_normal, ↓then_ret, ↓Fin_ret, pval, rd_S, rd_C, put_S, resV, resL, List.replicate_succ, List.replicate_zero, List.set_cons_zero, List.set_cons_succ, List.getElem?_cons_zero, List.getElem?_cons_succ, Option.getD_some, Nat.reduceSub, List.cons_append, List.nil_append, Bool.not_false]
      exact gc_val hpH rfl
    have hjj : rgJ P rs k := ⟨h0, by rw [Int.toNat_natCast]; exact hj⟩
    have e1 : rgA P rs k = (bt rs (but rs k) (rdx rs k).1 (rdx rs k).2.1).getD 99 := if_pos hjj
    rw [e1, decide_eq_true hjj, decide_eq_true ((jbl_grw hn hO).2 hj)]
    simp (maxSteps := 4000000) -implicitDefEqProofs -dsimp (disch := omega) only [↓AW_skip, ↓AW_ops, ↓AW_seq, ↓AW_cond, ↓AOps_nil, ↓AOps_pu, ↓AOps_call, on_some, extK_same, condB_f, ↓then_normal, pval, rd_S, put_S, chkd, bgot, partA, eq_self, List.replicate_succ, List.replicate_zero, List.set_cons_zero, List.set_cons_succ, List.getElem?_cons_zero, List.getElem?_cons_succ, List.drop_zero, List.take_succ_cons, List.take_nil, Option.getD_some, map_c, map_n, List.length_cons, List.length_nil, Nat.reduceAdd, Nat.reduceSub, Nat.reduceLeDiff, Nat.reduceEqDiff, Nat.zero_add, List.cons_append, List.nil_append, if_true, if_false, Bool.not_true]
    obtain ⟨r3, H3, c3, p3, hW⟩ := s63 (hL.mono p2) (by rw [hO.len]; omega) (by rw [hO.len]; omega) k
    refine CallK.of c3 ?_
    have hpK := hpH.trans p3
    have huK := hu.mono hpK
    obtain ⟨hr, _⟩ := rdx_at k0 k1
    have hri := huK.idxI (k := .i64) k0 (show k < (rs.length : Int) by omega)
    obtain ⟨ha, hb⟩ := hn.inP k0 k1
    simp (maxSteps := 4000000) -implicitDefEqProofs -dsimp (disch := omega) only [↓AOps_pu, ↓AOps_ld, ↓AOps_call, on_some, pval, lval, rd_S, put_S, chkd, isAdr, bgot, AV.cells?, partA, eq_self, List.replicate_succ, List.replicate_zero, List.set_cons_zero, List.set_cons_succ, List.getElem?_cons_zero, List.getElem?_cons_succ, List.drop_zero, List.drop_succ_cons, List.take_zero, List.take_succ_cons, List.take_nil, Option.getD_some, map_c, map_n, List.length_cons, List.length_nil, Nat.reduceAdd, Nat.reduceSub, Nat.reduceLeDiff, Nat.zero_add, Nat.add_zero, List.cons_append, List.nil_append, if_true, if_false, Bool.false_eq_true, extK_of p3, hri, huK.ld0 hr 1 false (by decide), huK.ld hr 1 1 false (by decide), e3]
    have hwn : Nos rs (without L k) := fun i hi => hO.nos i (List.mem_filter.1 hi).1
    obtain ⟨c, ok, c4, hLS⟩ := c_least huK hW hn hwn (by have := without_le L k; rw [hO.len] at this; omega) (a := (rdx rs k).1) (b := (rdx rs k).2.1) ha hb
    refine CallK.of c4 ?_
    obtain ⟨hbt, hok⟩ := LS_bt (M := but rs k) (hO.s.filter _) (fun i => by
      unfold but
      rw [List.mem_filter, List.mem_filter, hO.p.mem_iff]
      simp) (fun i hi => hn.wb (hwn i hi).1 (hwn i hi).2) hLS
    rw [hbt]
    cases ok with
    | true =>
      simp (maxSteps := 4000000) -implicitDefEqProofs -dsimp (disch := omega) only [↓AW_ops, ↓AW_seq, ↓AW_cond, ↓AW_ret, ↓AOps_nil, ↓AOps_pu, on_some, extK_same, condB_t, ↓then_normal, ↓then_ret, ↓Fin_ret, pval, rd_S, rd_C, put_S, resV, resL, eq_self, List.replicate_succ, List.replicate_zero, List.set_cons_zero, List.set_cons_succ, List.getElem?_cons_zero, List.getElem?_cons_succ, Option.getD_some, Nat.reduceSub, List.cons_append, List.nil_append, if_true]
      exact gc_val hpK rfl
    | false =>
      simp (maxSteps := 4000000) -implicitDefEqProofs -dsimp (disch := omega) only [↓AW_skip, ↓AW_ops, ↓AW_seq, ↓AW_cond, ↓AW_ret, ↓AOps_nil, ↓AOps_pu, on_some, extK_same, condB_f, ↓then_normal, ↓Fin_ret, pval, rd_S, rd_C, put_S, resV, resL, List.replicate_succ, List.replicate_zero, List.set_cons_zero, List.set_cons_succ, List.getElem?_cons_zero, List.getElem?_cons_succ, Option.getD_some, Nat.reduceSub, List.cons_append, List.nil_append, if_false, Bool.false_eq_true]
      exact gc_val hpK rfl
  · refine CallK.of (s28 (hu.mono hpA) hP) ?_
    simp (maxSteps := 4000000) -implicitDefEqProofs -dsimp (disch := omega) only [↓AOps_call, extK_same, rd_S, put_S, List.replicate_succ, List.replicate_zero, List.set_cons_zero, List.set_cons_succ, List.getElem?_cons_zero, List.getElem?_cons_succ, Option.getD_some, map_c, map_n, Nat.reduceSub, List.cons_append, List.nil_append, List.replicate_zero]
    refine CallK.of (s58 (L1_one A k) (by simp) (c := rs.length) (by omega)) ?_
    simp (maxSteps := 4000000) -implicitDefEqProofs -dsimp (disch := omega) only [↓AOps_ha, ↓AOps_call, on_some, extK_app, extK_same, hval, rd_S, put_S, AV.cells?, splice, fillA, repl, eq_self, List.replicate_succ, List.replicate_zero, List.set_cons_zero, List.set_cons_succ, List.getElem?_cons_zero, List.getElem?_cons_succ, List.drop_zero, List.drop_succ_cons, List.drop_nil, List.take_zero, List.take_succ_cons, Option.getD_some, map_c, map_n, List.length_cons, List.length_nil, Nat.reduceAdd, Nat.reduceSub, Nat.reduceLeDiff, Nat.zero_add, List.cons_append, List.nil_append, List.append_nil, if_true, and_true, List.replicate_zero, repl]
    refine CallK.of (s57 (L1_two _ _ _) (by simp)) ?_
    rw [orE_v, hE]
    generalize A ++ [AObj.cells true [I k]] ++ [AObj.cells true [I (vE Q rs), I (if notOf (rs.length : Int) [k] = true then 4 else 0)]] = A2 at hp2 ⊢
    have hu2 := hu.mono hp2
    by_cases h0 : nE Q rs [k] = 0
    case neg =>
      have e1 : rgA Q rs k = 0 := if_neg (fun h => h0 h.1)
      rw [e1, decide_eq_false (fun h : rgJ Q rs k => h0 h.1)]
      simp (maxSteps := 4000000) -implicitDefEqProofs -dsimp (disch := omega) only [↓AW_ops, ↓AW_seq, ↓AW_cond, ↓AW_ret, ↓AOps_nil, ↓AOps_pu, on_some, extK_same, condB_t, ↓then_normal, ↓then_ret, ↓Fin_ret, pval, rd_S, rd_C, put_S, resV, resL, List.replicate_succ, List.replicate_zero, List.set_cons_zero, List.set_cons_succ, List.getElem?_cons_zero, List.getElem?_cons_succ, Option.getD_some, Nat.reduceSub, List.cons_append, List.nil_append, bin_neq, decide_true, not_false_eq_true, h0]
      exact gc_val hp2 rfl
    obtain ⟨hn, k0, k1⟩ := nE_1 h0
    obtain ⟨P, rfl⟩ := hn.nat
    have hl14 := hn.l
    have hP7 := hn.p7
    rw [h0]
    simp (maxSteps := 4000000) -implicitDefEqProofs -dsimp (disch := omega) only [↓AW_skip, ↓AW_ops, ↓AW_seq, ↓AW_cond, ↓AOps_nil, ↓AOps_pu, ↓AOps_call, on_some, extK_same, condB_f, ↓then_normal, pval, rd_S, rd_C, put_S, chkd, bgot, partA, eq_self, List.replicate_succ, List.replicate_zero, List.set_cons_zero, List.set_cons_succ, List.getElem?_cons_zero, List.getElem?_cons_succ, List.drop_zero, List.take_succ_cons, List.take_nil, Option.getD_some, map_c, map_n, List.length_cons, List.length_nil, Nat.reduceAdd, Nat.reduceSub, Nat.reduceLeDiff, Nat.reduceEqDiff, Nat.zero_add, List.cons_append, List.nil_append, bin_neq, if_true, if_false, decide_false, not_true_eq_false]
    obtain ⟨r1, H1, c1, p1, L, hL, hO⟩ := c_all hu2 hn
    refine CallK.of c1 ?_
    simp (maxSteps := 4000000) -implicitDefEqProofs -dsimp (disch := omega) only [↓AW_ops, ↓AW_seq, ↓AOps_nil, ↓AOps_pu, ↓AOps_call, on_some, extK_false, ↓then_normal, pval, rd_S, put_S, chkd, bgot, partA, eq_self, List.replicate_succ, List.replicate_zero, List.set_cons_zero, List.set_cons_succ, List.getElem?_cons_zero, List.getElem?_cons_succ, List.drop_zero, List.take_succ_cons, List.take_nil, Option.getD_some, map_c, map_n, List.length_cons, List.length_nil, Nat.reduceAdd, Nat.reduceSub, Nat.reduceLeDiff, Nat.reduceEqDiff, Nat.zero_add, List.cons_append, List.nil_append, if_true, if_false]
    obtain ⟨r2, H2, c2, p2, hG⟩ := c_grow (hu2.mono p1) hL hn hO.nos (by rw [hO.len]; omega)
    refine CallK.of c2 ?_
    simp (maxSteps := 4000000) -implicitDefEqProofs -dsimp (disch := omega) only [↓AOps_call, extK_false, rd_S, put_S, List.replicate_succ, List.replicate_zero, List.set_cons_zero, List.set_cons_succ, List.getElem?_cons_zero, List.getElem?_cons_succ, Option.getD_some, map_c, map_n, Nat.reduceSub, List.cons_append, List.nil_append]
    have hgn : Nos rs (srt (grw (rdx rs) [] L)) := fun k hk => grw_nos hO.nos k ((srt_perm _).mem_iff.1 hk)
    have hsm := grw_small hn hO.nos
    have hpH := hp2.trans (p1.trans p2)
    have huH := hu.mono hpH
    refine CallK.of (s60 huH hG hn hgn (by rw [srt_len]; omega)) ?_
    by_cases hj : Jbl P rs
    case neg =>
      have hjj : ¬ rgJ P rs k := fun h => hj (by have := h.2; rwa [Int.toNat_natCast] at this)
      have e1 : rgA P rs k = 0 := if_neg hjj
      rw [e1, decide_eq_false hjj, decide_eq_false (fun hh => hj ((jbl_grw hn hO).1 hh))]
      simp (maxSteps := 4000000) -implicitDefEqProofs -dsimp (disch := omega) only [↓AW_ops, ↓AW_seq, ↓AW_cond, ↓AW_ret, ↓AOps_nil, ↓AOps_pu, on_some, extK_same, condB_t, ↓then_normal, ↓then_ret, ↓Fin_ret, pval, rd_S, rd_C, put_S, resV, resL, List.replicate_succ, List.replicate_zero, List.set_cons_zero, List.set_cons_succ, List.getElem?_cons_zero, List.getElem?_cons_succ, Option.getD_some, Nat.reduceSub, List.cons_append, List.nil_append, Bool.not_false]
      exact gc_val hpH rfl
    have hjj : rgJ P rs k := ⟨h0, by rw [Int.toNat_natCast]; exact hj⟩
    have e1 : rgA P rs k = (bt rs (but rs k) (rdx rs k).1 (rdx rs k).2.1).getD 99 := if_pos hjj
    rw [e1, decide_eq_true hjj, decide_eq_true ((jbl_grw hn hO).2 hj)]
    simp (maxSteps := 4000000) -implicitDefEqProofs -dsimp (disch := omega) only [↓AW_skip, ↓AW_ops, ↓AW_seq, ↓AW_cond, ↓AOps_nil, ↓AOps_pu, ↓AOps_call, on_some, extK_same, condB_f, ↓then_normal, pval, rd_S, put_S, chkd, bgot, partA, eq_self, List.replicate_succ, List.replicate_zero, List.set_cons_zero, List.set_cons_succ, List.getElem?_cons_zero, List.getElem?_cons_succ, List.drop_zero, List.take_succ_cons, List.take_nil, Option.getD_some, map_c, map_n, List.length_cons, List.length_nil, Nat.reduceAdd, Nat.reduceSub, Nat.reduceLeDiff, Nat.reduceEqDiff, Nat.zero_add, List.cons_append, List.nil_append, if_true, if_false, Bool.not_true]
    obtain ⟨r3, H3, c3, p3, hW⟩ := s63 (hL.mono p2) (by rw [hO.len]; omega) (by rw [hO.len]; omega) k
    refine CallK.of c3 ?_
    have hpK := hpH.trans p3
    have huK := hu.mono hpK
    obtain ⟨hr, _⟩ := rdx_at k0 k1
    have hri := huK.idxI (k := .i64) k0 (show k < (rs.length : Int) by omega)
    obtain ⟨ha, hb⟩ := hn.inP k0 k1
    simp (maxSteps := 4000000) -implicitDefEqProofs -dsimp (disch := omega) only [↓AOps_pu, ↓AOps_ld, ↓AOps_call, on_some, pval, lval, rd_S, put_S, chkd, isAdr, bgot, AV.cells?, partA, eq_self, List.replicate_succ, List.replicate_zero, List.set_cons_zero, List.set_cons_succ, List.getElem?_cons_zero, List.getElem?_cons_succ, List.drop_zero, List.drop_succ_cons, List.take_zero, List.take_succ_cons, List.take_nil, Option.getD_some, map_c, map_n, List.length_cons, List.length_nil, Nat.reduceAdd, Nat.reduceSub, Nat.reduceLeDiff, Nat.zero_add, Nat.add_zero, List.cons_append, List.nil_append, if_true, if_false, Bool.false_eq_true, extK_of p3, hri, huK.ld0 hr 1 false (by decide), huK.ld hr 1 1 false (by decide), e3]
    have hwn : Nos rs (without L k) := fun i hi => hO.nos i (List.mem_filter.1 hi).1
    obtain ⟨c, ok, c4, hLS⟩ := c_least huK hW hn hwn (by have := without_le L k; rw [hO.len] at this; omega) (a := (rdx rs k).1) (b := (rdx rs k).2.1) ha hb
    refine CallK.of c4 ?_
    obtain ⟨hbt, hok⟩ := LS_bt (M := but rs k) (hO.s.filter _) (fun i => by
      unfold but
      rw [List.mem_filter, List.mem_filter, hO.p.mem_iff]
      simp) (fun i hi => hn.wb (hwn i hi).1 (hwn i hi).2) hLS
    rw [hbt]
    cases ok with
    | true =>
      simp (maxSteps := 4000000) -implicitDefEqProofs -dsimp (disch := omega) only [↓AW_ops, ↓AW_seq, ↓AW_cond, ↓AW_ret, ↓AOps_nil, ↓AOps_pu, on_some, extK_same, condB_t, ↓then_normal, ↓then_ret, ↓Fin_ret, pval, rd_S, rd_C, put_S, resV, resL, eq_self, List.replicate_succ, List.replicate_zero, List.set_cons_zero, List.set_cons_succ, List.getElem?_cons_zero, List.getElem?_cons_succ, Option.getD_some, Nat.reduceSub, List.cons_append, List.nil_append, if_true]
      exact gc_val hpK rfl
    | false =>
      simp (maxSteps := 4000000) -implicitDefEqProofs -dsimp (disch := omega) only [↓AW_skip, ↓AW_ops, ↓AW_seq, ↓AW_cond, ↓AW_ret, ↓AOps_nil, ↓AOps_pu, on_some, extK_same, condB_f, ↓then_normal, ↓Fin_ret, pval, rd_S, rd_C, put_S, resV, resL, List.replicate_succ, List.replicate_zero, List.set_cons_zero, List.set_cons_succ, List.getElem?_cons_zero, List.getElem?_cons_succ, Option.getD_some, Nat.reduceSub, List.cons_append, List.nil_append, if_false, Bool.false_eq_true]
      exact gc_val hpK rfl
end
end Go.Proofs.Ytkgfcdpckfhknaa

namespace Go.Proofs.Ytkgfcdpckfhknaa
open Go Go.Eng
/-- A map from places to pairs of numbers. -/
def mG (ks : List Int) (g : Int → Int × Int) : List (AV × AV) := mpl ks (fun q => .agg [I (g q).1, I (g q).2])
def updG (g : Int → Int × Int) (k : Int) (x : Int × Int) : Int → Int × Int := fun p => if p = k then x else g p
theorem lkG {H : AHeap} {n : Nat} {ks : List Int} {g : Int → Int × Int} (h : H[n]? = some (.mp (mG ks g))) (q : Int) : (q ∈ ks → lkA (.agg [I 0, I 0]) true (.mp n) (I q) H = some (.tuple [.agg [I (g q).1, I (g q).2], .bool true])) ∧ (q ∉ ks → lkA (.agg [I 0, I 0]) true (.mp n) (I q) H = some (.tuple [.agg [I 0, I 0], .bool false])) := by
  have := lk_ok h rfl (.agg [I 0, I 0]) q
  constructor
  · intro hq
    rw [if_pos hq, decide_eq_true hq] at this
    exact this
  · intro hq
    rw [if_neg hq, decide_eq_false hq] at this
    exact this
theorem lkG1 {H : AHeap} {n : Nat} {ks : List Int} {g : Int → Int × Int} (h : H[n]? = some (.mp (mG ks g))) {q : Int} (hq : q ∈ ks) : lkA (.agg [I 0, I 0]) false (.mp n) (I q) H = some (.agg [I (g q).1, I (g q).2]) := lk_at h rfl _ _ hq
theorem msG {H : AHeap} {n : Nat} {ks : List Int} {g : Int → Int × Int} (h : H[n]? = some (.mp (mG ks g))) {q : Int} (hq : q ∉ ks) (x y : Int) : msA (.mp n) (I q) (.agg [I x, I y]) H = some (H.set n (.mp (mG (ks ++ [q]) (updG g q (x, y))))) := by
  refine ms_at h ?_
  have hs := setK_new (x := .agg [I x, I y]) (f := fun q => .agg [I (g q).1, I (g q).2]) hq
  have e : mpl ks (fun q => AV.agg [I (g q).1, I (g q).2]) ++ [(I q, .agg [I x, I y])] = mG (ks ++ [q]) (updG g q (x, y)) := by
    unfold mG mpl
    rw [List.map_append]
    congr 1
    · refine List.map_congr_left (fun k hk => ?_)
      show (I k, AV.agg [I (g k).1, I (g k).2]) = (I k, AV.agg [I (if k = q then (x, y) else g k).1, I (if k = q then (x, y) else g k).2])
      rw [if_neg (fun e : k = q => hq (by rw [← e]; exact hk))]
    · show _ = [(I q, AV.agg [I (updG g q (x, y) q).1, I (updG g q (x, y) q).2])]
      unfold updG
      rw [if_pos rfl]
  rw [e] at hs
  exact hs
/-- A list that the call has made and that stands apart from an object. -/
structure QS (A H : AHeap) (m : Nat) (y : AV) (qs : List Int) : Prop where
  q : ∃ n full pre post, y = .sl 1 n pre.length qs.length full ∧ H[n]? = some (.cells true (pre ++ qs.flatMap e1 ++ post)) ∧ n ≠ m ∧ A.length ≤ n ∧ (full = true → post = [])
theorem QS.ls {A H : AHeap} {m : Nat} {y : AV} {qs : List Int} (h : QS A H m y qs) : L1 H y qs := by
  obtain ⟨n, full, pre, post, rfl, h1, _, _, _⟩ := h.q
  refine ⟨e1_len, ?_⟩
  have hl := flatMap_length e1_len qs
  simp only [slCells, cellsAt, h1, if_true]
  rw [if_pos (by simp only [List.length_append]; omega)]
  simp only [Option.map_some, Option.some.injEq, Prod.mk.injEq, true_and]
  rw [List.append_assoc, List.drop_left, ← hl, List.take_left]
theorem QS.pop {A H : AHeap} {m : Nat} {y : AV} {q : Int} {qs : List Int} (h : QS A H m y (q :: qs)) : ∃ y', slcA 1 y (some (I 1)) none none = some y' ∧ QS A H m y' qs := by
  obtain ⟨n, full, pre, post, rfl, h1, h2, h3, h4⟩ := h.q
  refine ⟨.sl 1 n (pre.length + 1) qs.length full, ?_, ⟨n, full, pre ++ [I q], post, by simp, ?_, h2, h3, h4⟩⟩
  · have : (1 : Int) ≤ (qs.length : Int) + 1 := by omega
    simp [slcA, bnd, this]
  · rw [h1]
    simp [e1]
theorem QS.push {A H : AHeap} {m : Nat} {y : AV} {qs : List Int} (h : QS A H m y qs) (hp : A <+: H) (hl : qs.length + 1 ≤ lim) (hm : m < H.length) (q : Int) : ∃ y' H2, appA 1 (H ++ [.cells true [I q]]) y (.sl 1 H.length 0 1 true) = some (y', H2) ∧ QS A H2 m y' (qs ++ [q]) ∧ (∀ o, H[m]? = some o → H2[m]? = some o) ∧ A <+: H2 := by
  obtain ⟨n, full, pre, post, rfl, h1, h2, h3, h4⟩ := h.q
  have hn := (List.getElem?_eq_some_iff.1 h1).1
  have hfl := flatMap_length e1_len qs
  have hc := slCells_new (es := 1) H [I q] rfl
  have hg : (H ++ [AObj.cells true [I q]])[n]? = some (.cells true (pre ++ qs.flatMap e1 ++ post)) := by rw [List.getElem?_append_left hn]; exact h1
  have hnew : ((pre ++ qs.flatMap e1 ++ post).drop pre.length).take (qs.length * 1) ++ [I q] = (qs ++ [q]).flatMap e1 := by
    rw [List.append_assoc, List.drop_left, ← hfl, List.take_left, List.flatMap_append]
    rfl
  have hlen : (qs ++ [q]).length = qs.length + 1 := by simp
  unfold appA
  rw [hc]
  simp only [Nat.one_ne_zero, if_false, hl, and_self, if_true, hg]
  rw [if_pos (by simp only [List.length_append]; omega), hnew]
  cases full with
  | true =>
    simp only [if_true]
    refine ⟨_, _, rfl, ⟨_, false, [], [], by rw [hlen]; rfl, by simp, ?_, ?_, by simp⟩, ?_, ?_⟩
    · intro e
      simp only [List.length_append] at e
      omega
    · simp only [List.length_append]; have := hp.length_le; omega
    · intro o ho
      have := (List.getElem?_eq_some_iff.1 ho).1
      rw [List.getElem?_append_left (by simp only [List.length_append]; omega), List.getElem?_append_left this]
      exact ho
    · exact (hp.trans (pre_app _ _)).trans (pre_app _ _)
  | false =>
    simp only [Bool.false_eq_true, if_false]
    refine ⟨_, _, rfl, ⟨_, false, [], [], by rw [hlen]; rfl, by simp, ?_, ?_, by simp⟩, ?_, ?_⟩
    · intro e
      simp only [List.length_append] at e
      omega
    · simp only [List.length_append]; have := hp.length_le; omega
    · intro o ho
      have := (List.getElem?_eq_some_iff.1 ho).1
      rw [List.getElem?_append_left (by simp only [List.length_set, List.length_append]; omega), List.getElem?_set, if_neg h2, List.getElem?_append_left this]
      exact ho
    · exact (pre_set (hp.trans (pre_app _ _)) h3 _).trans (pre_app _ _)
/-- A road up to a cost that joins two places. -/
def jn (rs : List Rd) (c k p q : Int) : Prop := (0 ≤ k ∧ k ≤ (rs.length : Int) - 1) ∧ wct rs k ≤ c ∧ (((rdx rs k).1 = p ∧ (rdx rs k).2.1 = q) ∨ ((rdx rs k).1 = q ∧ (rdx rs k).2.1 = p))
/-- The places in the order in which they were reached. -/
inductive BT (rs : List Rd) (c a : Int) : List Int → (Int → Int × Int) → Prop
  | base {g : Int → Int × Int} : BT rs c a [a] g
  | step {ks : List Int} {g : Int → Int × Int} {k p q : Int} : BT rs c a ks g → q ∉ ks → p ∈ ks → jn rs c k p q → BT rs c a (ks ++ [q]) (updG g q (k, p))
theorem jn_mem {rs : List Rd} {c k p q : Int} (h : jn rs c k p q) : ∃ e, e ∈ (upTo (wct rs) (nums rs) c).map (rdx rs) ∧ ((e.1 = p ∧ e.2.1 = q) ∨ (e.1 = q ∧ e.2.1 = p)) :=
  ⟨rdx rs k, List.mem_map_of_mem (mem_upTo.2 ⟨mem_plc.2 (by have := h.1; omega), h.2.1⟩), h.2.2⟩
theorem BT.mem {rs : List Rd} {c a : Int} {ks : List Int} {g : Int → Int × Int} (h : BT rs c a ks g) : a ∈ ks := by
  induction h with
  | base => simp
  | step _ _ _ _ ih => exact List.mem_append_left _ ih
theorem BT.nodup {rs : List Rd} {c a : Int} {ks : List Int} {g : Int → Int × Int} (h : BT rs c a ks g) : ks.Nodup := by
  induction h with
  | base => simp
  | step _ hq _ _ ih => exact List.nodup_append.2 ⟨ih, by simp, fun x hx y hy e => hq (by rw [List.mem_singleton] at hy; rw [← hy, ← e]; exact hx)⟩
theorem BT.cn {rs : List Rd} {c a : Int} {ks : List Int} {g : Int → Int × Int} (h : BT rs c a ks g) : ∀ p ∈ ks, cnT rs (nums rs) c a p := by
  induction h with
  | base => intro p hp; rw [List.mem_singleton] at hp; rw [hp]; exact .refl _
  | step _ hq hp hj ih =>
    intro x hx
    rcases List.mem_append.1 hx with h1 | h1
    · exact ih x h1
    · rw [List.mem_singleton] at h1
      rw [h1]
      obtain ⟨e, he, hr⟩ := jn_mem hj
      exact .step (ih _ hp) e he hr
theorem BT.inP {P : Nat} {rs : List Rd} {c a : Int} {ks : List Int} {g : Int → Int × Int} (h : BT rs c a ks g) (hn : Net P rs) (ha : 0 ≤ a ∧ a < P) : ∀ p ∈ ks, 0 ≤ p ∧ p < P := by
  induction h with
  | base => intro p hp; rw [List.mem_singleton] at hp; rw [hp]; exact ha
  | step _ hq hp hj ih =>
    intro x hx
    rcases List.mem_append.1 hx with h1 | h1
    · exact ih x h1
    · rw [List.mem_singleton] at h1
      rw [h1]
      obtain ⟨⟨k0, k1⟩, _, hr⟩ := hj
      obtain ⟨ha1, hb1⟩ := hn.inP k0 k1
      rcases hr with ⟨_, e2⟩ | ⟨e1, _⟩
      · rw [← e2]; exact hb1
      · rw [← e1]; exact ha1
/-- Each place but the first was reached from an earlier one. -/
theorem BT.rank {rs : List Rd} {c a : Int} {ks : List Int} {g : Int → Int × Int} (h : BT rs c a ks g) : ∃ r : Int → Nat, ∀ q ∈ ks, r q < ks.length ∧ (¬ q = a → (g q).2 ∈ ks ∧ r (g q).2 < r q ∧ jn rs c (g q).1 (g q).2 q) := by
  induction h with
  | base => exact ⟨fun _ => 0, fun q hq => ⟨by simp, fun hn => absurd (List.mem_singleton.1 hq) hn⟩⟩
  | @step ks g k p q hb hq hp hj ih =>
    obtain ⟨r, hr⟩ := ih
    refine ⟨fun x => if x = q then ks.length else r x, fun x hx => ?_⟩
    by_cases hxq : x = q
    · subst hxq
      refine ⟨by simp, fun _ => ?_⟩
      have hpx : ¬ p = x := fun e => hq (by rw [← e]; exact hp)
      simp only [updG, if_true, hpx, if_false]
      exact ⟨List.mem_append_left _ hp, (hr p hp).1, hj⟩
    · have hxk : x ∈ ks := by
        rcases List.mem_append.1 hx with h1 | h1
        · exact h1
        · exact absurd (List.mem_singleton.1 h1) hxq
      obtain ⟨h1, h2⟩ := hr x hxk
      simp only [updG, hxq, if_false]
      refine ⟨by simp; omega, fun hn => ?_⟩
      obtain ⟨h3, h4, h5⟩ := h2 hn
      have hgq : ¬ (g x).2 = q := fun e => hq (by rw [← e]; exact h3)
      simp only [hgq, if_false]
      exact ⟨List.mem_append_left _ h3, h4, h5⟩
/-- All cheap roads from a place lead to places of a list. -/
def clo (rs : List Rd) (c : Int) (ks : List Int) (p : Int) : Prop := ∀ k q, jn rs c k p q → q ∈ ks
theorem clo_all {rs : List Rd} {c a : Int} {ks : List Int} (ha : a ∈ ks) (h : ∀ p ∈ ks, clo rs c ks p) {p : Int} (hc : cnT rs (nums rs) c a p) : p ∈ ks := by
  unfold cnT at hc
  induction hc with
  | refl => exact ha
  | step _ e he hr ih =>
    obtain ⟨k, hk, rfl⟩ := List.mem_map.1 he
    rw [mem_upTo, mem_plc] at hk
    exact h _ ih k _ ⟨⟨hk.1.1, by omega⟩, hk.2, hr⟩
theorem l1_at0 {A : AHeap} {v : AV} {x : Int} {xs : List Int} (h : L1 A v (x :: xs)) : idxA 1 v (.int .i64 0) = some (.ptr (nm v) (of v)) ∧ ldA 1 false (.ptr (nm v) (of v)) A = some (I x) := by
  have h1 := h.idx (k := .i64) (i := 0) (by simp)
  have h2 := h.ld0 (i := 0) (x := x) rfl 1 false (by decide)
  constructor
  · simpa using h1
  · simpa [Go.Eng.e1, partA] using h2
section
variable {P : Nat} {rs : List Rd} {u v : AV} {A : AHeap} {a c : Int}
structure BF (rs : List Rd) (P : Nat) (A : AHeap) (a c : Int) (ks : List Int) (g : Int → Int × Int) (qs : List Int) (y : AV) (H : AHeap) : Prop where
  pre : A <+: H
  mp : H[A.length]? = some (.mp (mG ks g))
  q : QS A H A.length y qs
  bt : BT rs c a ks g
  sub : ∀ p ∈ qs, p ∈ ks
  cl : ∀ p ∈ ks, p ∉ qs → clo rs c ks p
  len : qs.length ≤ ks.length
theorem BF.le {ks qs : List Int} {g : Int → Int × Int} {y : AV} {H : AHeap} (hb : BF rs P A a c ks g qs y H) (hn : Net P rs) (ha : 0 ≤ a ∧ a < P) : ks.length ≤ P := by
  have := nodup_len_le hb.bt.nodup (ys := plc P) (fun x hx => mem_plc.2 (hb.bt.inP hn ha x hx))
  rw [plc_len] at this
  exact this
theorem BF.push {ks qs : List Int} {g : Int → Int × Int} {y : AV} {H : AHeap} {k p q : Int} (hb : BF rs P A a c ks g qs y H) (hn : Net P rs) (ha : 0 ≤ a ∧ a < P) (hq : q ∉ ks) (hp : p ∈ ks) (hj : jn rs c k p q) :
    ∃ y' H2, appA 1 (H.set A.length (.mp (mG (ks ++ [q]) (updG g q (k, p)))) ++ [.cells true [I q]]) y (.sl 1 (H.set A.length (.mp (mG (ks ++ [q]) (updG g q (k, p))))).length 0 1 true) = some (y', H2) ∧ BF rs P A a c (ks ++ [q]) (updG g q (k, p)) (qs ++ [q]) y' H2 := by
  have hle := hb.le hn ha
  have hp7 := hn.p7
  have hAl : A.length < H.length := (List.getElem?_eq_some_iff.1 hb.mp).1
  have hp1 : A <+: H.set A.length (.mp (mG (ks ++ [q]) (updG g q (k, p)))) := pre_set hb.pre (Nat.le_refl _) _
  have hm1 : (H.set A.length (.mp (mG (ks ++ [q]) (updG g q (k, p)))))[A.length]? = some (.mp (mG (ks ++ [q]) (updG g q (k, p)))) := List.getElem?_set_self hAl
  have hq1 : QS A (H.set A.length (.mp (mG (ks ++ [q]) (updG g q (k, p))))) A.length y qs := by
    obtain ⟨n, full, pre, post, h0, h1, h2, h3, h4⟩ := hb.q.q
    exact ⟨n, full, pre, post, h0, by rw [List.getElem?_set_ne (Ne.symm h2)]; exact h1, h2, h3, h4⟩
  obtain ⟨y', H2, happ, hq2, hkeep, hp2⟩ := hq1.push hp1 (by have := hb.len; simp only [lim]; omega) (by rw [List.length_set]; exact hAl) q
  refine ⟨y', H2, happ, ⟨hp2, hkeep _ hm1, hq2, .step hb.bt hq hp hj, fun x hx => ?_, fun x hx hnx => ?_, by simp; exact hb.len⟩⟩
  · rcases List.mem_append.1 hx with h | h
    · exact List.mem_append_left _ (hb.sub x h)
    · exact List.mem_append_right _ h
  · have hxk : x ∈ ks := by
      rcases List.mem_append.1 hx with h | h
      · exact h
      · exact absurd (List.mem_append_right _ h) hnx
    exact fun k' q' h' => List.mem_append_left _ (hb.cl x hxk (fun h => hnx (List.mem_append_left _ h)) k' q' h')
theorem BF.pop {ks qs : List Int} {g : Int → Int × Int} {y : AV} {H : AHeap} {p : Int} (hb : BF rs P A a c ks g (p :: qs) y H) (hc : clo rs c ks p) : ∃ y', slcA 1 y (some (I 1)) none none = some y' ∧ BF rs P A a c ks g qs y' H := by
  obtain ⟨y', h1, h2⟩ := hb.q.pop
  refine ⟨y', h1, ⟨hb.pre, hb.mp, h2, hb.bt, fun x hx => hb.sub x (List.mem_cons_of_mem _ hx), fun x hx hnx => ?_, by have := hb.len; simp at this; omega⟩⟩
  by_cases hxp : x = p
  · rw [hxp]; exact hc
  · exact hb.cl x hx (fun h => by
      rcases List.mem_cons.1 h with h | h
      · exact hxp h
      · exact hnx h)
set_option maxRecDepth 20000 in
set_option maxHeartbeats 16000000 in
theorem c_reached (hu : L3 A u rs) (hn : Net P rs) (ha : 0 ≤ a ∧ a < P) : ∃ H, ACalls Try.prog 81 [.agg [I P, u], I a, I c] A (.mp A.length) H ∧ A <+: H ∧ ∃ ks g, H[A.length]? = some (.mp (mG ks g)) ∧ BT rs c a ks g ∧ ∀ p, p ∈ ks ↔ cnT rs (nums rs) c a p := by
  have key : ∃ r H, ACalls Try.prog 81 [.agg [I P, u], I a, I c] A r H ∧ r = .mp A.length ∧ A <+: H ∧ ∃ ks g, H[A.length]? = some (.mp (mG ks g)) ∧ BT rs c a ks g ∧ ∀ p, p ∈ ks ↔ cnT rs (nums rs) c a p := by
    refine acallsR hmix Try.func81 (by kernel_rfl) t81 _ 3 rfl (by decide) ?_
    have hl14 := hn.l
    have hp7 := hn.p7
    dsimp only [m81]
    simp (maxSteps := 4000000) -implicitDefEqProofs -dsimp (disch := omega) only [↓AW_ops, ↓AW_seq, ↓AOps_nil, ↓AOps_pu, on_some, ↓then_normal, pval, rd_S, rd_C, put_S, cells_agg, List.replicate_succ, List.replicate_zero, List.set_cons_zero, List.set_cons_succ, List.getElem?_cons_zero, Option.getD_some, Nat.reduceSub, List.cons_append, List.nil_append, ↓AW_toScope]
    refine ScopeK.by (α := Unit) 73 (fun _ => False) (fun _ => []) (fun _ => A) (fun _ => 0) 1 ?_ (fun _ h => h.elim)
    have hm0 : (A ++ [AObj.mp (mG [] (fun _ => (0, 0)))])[A.length]? = some (.mp (mG [] (fun _ => (0, 0)))) := mp_new _ _
    have hms := msG hm0 (q := a) (by simp) (-1) (-1)
    have hnil : (mG [] (fun _ => (0, 0))) = [] := rfl
    rw [hnil, List.nil_append] at hms
    simp (maxSteps := 4000000) -implicitDefEqProofs -dsimp (disch := omega) only [↓AW_ops, ↓AW_seq, ↓AW_block, ↓AOps_nil, ↓AOps_pu, ↓AOps_ha, on_some, extK_false, extK_app, ↓then_normal, pval, hval_blds, hval_mset, hval_mkm, rd_S, rd_C, put_S, putS_none, ↓AW_toLoop, cells_int, splice, fillA, repl, eq_self, List.set_cons_zero, List.set_cons_succ, List.getElem?_cons_zero, List.getElem?_cons_succ, List.drop_zero, List.drop_succ_cons, List.drop_nil, List.take_zero, List.take_succ_cons, Option.getD_some, Option.map_some, map_c, map_n, List.length_cons, List.length_nil, Nat.reduceAdd, Nat.reduceLeDiff, Nat.zero_add, List.cons_append, List.nil_append, List.append_nil, if_true, and_true, Int.reduceNeg, ↓AW_label, hms, AW_label]
    have hlen : ((A ++ [AObj.mp []]).set A.length (.mp (mG [a] (updG (fun _ => (0, 0)) a (-1, -1))))).length = A.length + 1 := by simp
    have hbf : BF rs P A a c [a] (updG (fun _ => (0, 0)) a (-1, -1)) [a] (.sl 1 ((A ++ [AObj.mp []]).set A.length (.mp (mG [a] (updG (fun _ => (0, 0)) a (-1, -1))))).length 0 1 true) ((A ++ [AObj.mp []]).set A.length (.mp (mG [a] (updG (fun _ => (0, 0)) a (-1, -1)))) ++ [AObj.cells true [I a]]) := by
      have hp1 : A <+: (A ++ [AObj.mp []]).set A.length (.mp (mG [a] (updG (fun _ => (0, 0)) a (-1, -1)))) := pre_set (pre_app _ _) (Nat.le_refl _) _
      have hm1 : ((A ++ [AObj.mp []]).set A.length (.mp (mG [a] (updG (fun _ => (0, 0)) a (-1, -1)))))[A.length]? = some (.mp (mG [a] (updG (fun _ => (0, 0)) a (-1, -1)))) := List.getElem?_set_self (by simp)
      refine ⟨hp1.trans (pre_app _ _), pre_get (pre_app _ _) hm1, ⟨⟨_, true, [], [], rfl, mp_new _ _, by omega, by omega, fun _ => rfl⟩⟩, .base, fun p hp => hp, fun p hp hn => absurd hp hn, Nat.le_refl _⟩
    refine LoopK.by 73 (fun x : List Int × (Int → Int × Int) × List Int × AV × AHeap => BF rs P A a c x.1 x.2.1 x.2.2.1 x.2.2.2.1 x.2.2.2.2) (fun x => [(2, I c), (3, .agg [I P, u]), (7, .mp A.length), (8, x.2.2.2.1)]) (fun x => x.2.2.2.2) (fun x => 2 * (P - x.1.length) + x.2.2.1.length) (_, _, _, _, _) hbf rfl (by simp [Has, rd_s]) rfl ?_
    rintro ⟨ks, g, qs, y, H⟩ hb
    simp only at hb
    have hkP := hb.le hn ha
    have hls := hb.q.ls
    cases qs with
    | nil =>
      have hlen0 : lenA y = some (I 0) := by have := hls.len; simpa using this
      simp (maxSteps := 4000000) -implicitDefEqProofs -dsimp (disch := omega) only [↓AW_ops, ↓AW_seq, ↓AW_cond, ↓AW_exit, ↓AW_ret, ↓AOps_nil, ↓AOps_pu, on_some, condB_f, ↓then_normal, ↓then_exit, ↓inBlock_exit, ↓FinR_ret, pval, rd_S, rd_C, put_S, resV, resL, eq_self, mk, List.foldl_cons, List.foldl_nil, List.replicate_succ, List.replicate_zero, List.set_cons_zero, List.set_cons_succ, List.getElem?_cons_zero, List.getElem?_cons_succ, Option.getD_some, List.length_cons, List.length_nil, Nat.reduceAdd, Nat.reduceLeDiff, Nat.zero_add, bin_gtr, if_true, if_false, decide_false, true_and, reduceCtorEq, Int.reduceLT, ↓inScope_exit, ↓inScope_ret, hlen0]
      refine ⟨_, _, gc_all, rfl, hb.pre, ks, g, hb.mp, hb.bt, fun p => ⟨hb.bt.cn p, clo_all hb.bt.mem (fun x hx => hb.cl x hx (by simp))⟩⟩
    | cons p qs =>
      have hlen1 := hls.len
      obtain ⟨hi0, hl0⟩ := l1_at0 hls
      have huH := hu.mono hb.pre
      have hpk := hb.sub p (by simp)
      have hgt : (0 : Int) < ((p :: qs).length : Nat) := by simp only [List.length_cons]; omega
      have hN1 : (p :: qs).length = qs.length + 1 := rfl
      generalize (p :: qs).length = N at hlen1 hgt hN1 ⊢
      simp (maxSteps := 4000000) -implicitDefEqProofs -dsimp (disch := omega) only [↓AW_skip, ↓AW_ops, ↓AW_seq, ↓AW_cond, ↓AW_block, ↓AOps_nil, ↓AOps_pu, ↓AOps_ld, on_some, condB_t, ↓then_normal, pval, lval_ld, rd_S, rd_C, put_S, ↓AW_toLoop, chkd, isAdr, bgot, cells_agg, partA, eq_self, mk, List.foldl_cons, List.foldl_nil, List.replicate_succ, List.replicate_zero, List.set_cons_zero, List.set_cons_succ, List.getElem?_cons_zero, List.getElem?_cons_succ, List.drop_zero, List.drop_succ_cons, List.take_succ_cons, List.take_nil, Option.getD_some, List.length_cons, List.length_nil, Nat.reduceAdd, Nat.reduceLeDiff, Nat.zero_add, bin_gtr, if_true, if_false, Bool.false_eq_true, decide_true, hlen1, hgt, hi0, hl0, huH.len]
      refine LoopK.by 73 (fun j : Nat => j ≤ rs.length ∧ ∀ k q, k < (j : Int) → jn rs c k p q → q ∈ ks) (fun j => [(2, I c), (3, .agg [I P, u]), (7, .mp A.length), (8, y), (9, I p), (28, u), (29, I rs.length), (30, I j)]) (fun _ => H) (fun j => rs.length - j) 0 ⟨by omega, fun k q hk hj => by have := hj.1; omega⟩ rfl (by simp [Has, rd_s]) rfl ?_
      rintro j ⟨hj, hc⟩
      by_cases hlt : j < rs.length
      · obtain ⟨z, hz⟩ : ∃ z, rs[j]? = some z := ⟨_, List.getElem?_eq_getElem hlt⟩
        have hlt' : (j : Int) < rs.length := by omega
        obtain ⟨hr, _⟩ := rdx_at (rs := rs) (k := (j : Int)) (by omega) (by omega)
        rw [Int.toNat_natCast, hz] at hr
        have hze : z = rdx rs j := Option.some.inj hr
        have hwe : z.2.2 = wct rs j := by rw [hze]; rfl
        have hnext : (∀ q, jn rs c (j : Int) p q → q ∈ ks) → ∀ k q, k < ((j + 1 : Nat) : Int) → jn rs c k p q → q ∈ ks := fun h k q hk hjn => by
          by_cases hkj : k = (j : Int)
          · subst hkj; exact h q hjn
          · exact hc k q (by omega) hjn
        have hjz : ∀ q, jn rs c (j : Int) p q → z.2.2 ≤ c ∧ ((z.1 = p ∧ z.2.1 = q) ∨ (z.1 = q ∧ z.2.1 = p)) := by
          rintro q ⟨_, g1, g2⟩
          rw [hwe, hze]
          exact ⟨g1, g2⟩
        have hjn : ∀ q, z.2.2 ≤ c → ((z.1 = p ∧ z.2.1 = q) ∨ (z.1 = q ∧ z.2.1 = p)) → jn rs c (j : Int) p q := fun q g1 g2 => ⟨by omega, by rw [hwe] at g1; exact g1, by rw [hze] at g2; exact g2⟩
        by_cases hB : p = z.2.1
        · subst hB
          by_cases hA : z.1 ∈ ks
          · simp (maxSteps := 4000000) -implicitDefEqProofs -dsimp (disch := omega) only [↓AW_skip, ↓AW_ops, ↓AW_seq, ↓AW_cond, ↓AW_block, ↓AW_exit, ↓AW_ret, ↓AOps_nil, ↓AOps_pu, ↓AOps_ld, ↓AOps_guard, on_some, guardB_tf, skipS_some, condB_t, ↓then_normal, ↓then_exit, ↓inBlock_exit, ↓FinR_ret, pval, lval_ld, lval_look, rd_S, rd_C, put_S, resV, resL, chkd, isAdr, bput, bgot, cells_agg, splice, partA, eq_self, mk, List.foldl_cons, List.foldl_nil, List.replicate_succ, List.replicate_zero, List.set_cons_zero, List.set_cons_succ, List.getElem?_cons_zero, List.getElem?_cons_succ, List.drop_zero, List.drop_succ_cons, List.drop_nil, List.take_zero, List.take_succ_cons, List.take_nil, Option.getD_some, Option.map_some, Option.map_none, List.length_cons, List.length_nil, Nat.reduceAdd, Nat.reduceLeDiff, Nat.reduceEqDiff, Nat.zero_add, List.nil_append, List.append_nil, bin_add, bin_eql, bin_lss, w64, if_true, if_false, Bool.false_eq_true, decide_true, true_and, reduceCtorEq, ne_eq, not_true_eq_false, ↓inScope_exit, ↓inScope_ret, hlt', huH.idx hlt, huH.ld0 hz 3 true (by decide), e3, (lkG hb.mp z.1).1 hA]
            refine ⟨j + 1, ⟨hlt, hnext (fun q hq => ?_)⟩, by simp [Has, rd_s], by omega⟩
            rcases (hjz q hq).2 with ⟨_, g2⟩ | ⟨g1, _⟩
            · rw [← g2]; exact hpk
            · rw [← g1]; exact hA
          · by_cases hw : z.2.2 ≤ c
            · have hw2 : ¬ c < z.2.2 := by omega
              obtain ⟨y', H2, happ, hb2⟩ := hb.push hn ha hA hpk (hjn z.1 hw (.inr ⟨rfl, rfl⟩))
              have hle2 := hb2.le hn ha
              rw [List.length_append, List.length_singleton] at hle2
              simp (maxSteps := 4000000) -implicitDefEqProofs -dsimp (disch := omega) only [↓AW_skip, ↓AW_ops, ↓AW_seq, ↓AW_cond, ↓AW_block, ↓AW_exit, ↓AW_ret, ↓AOps_nil, ↓AOps_pu, ↓AOps_ld, ↓AOps_ha, ↓AOps_guard, on_some, extK_false, extK_app, guardB_ff, condB_t, condB_f, ↓then_normal, ↓then_exit, ↓inBlock_exit, ↓FinR_ret, pval, lval_ld, lval_look, hval_blds, hval_app, hval_mset, rd_S, rd_C, put_S, putS_none, resV, resL, chkd, isAdr, bput, bgot, cells_agg, cells_int, splice, partA, fillA, repl, eq_self, mk, List.foldl_cons, List.foldl_nil, List.replicate_succ, List.replicate_zero, List.set_cons_zero, List.set_cons_succ, List.getElem?_cons_zero, List.getElem?_cons_succ, List.drop_zero, List.drop_succ_cons, List.drop_nil, List.take_zero, List.take_succ_cons, List.take_nil, Option.getD_some, Option.map_some, Option.map_none, map_c, map_n, List.length_cons, List.length_nil, Nat.reduceAdd, Nat.reduceLeDiff, Nat.reduceEqDiff, Nat.zero_add, List.cons_append, List.nil_append, List.append_nil, bin_add, bin_eql, bin_lss, bin_gtr, w64, if_true, if_false, Bool.false_eq_true, decide_true, decide_false, true_and, and_true, reduceCtorEq, ne_eq, not_true_eq_false, ↓inScope_exit, ↓inScope_ret, hlt', huH.idx hlt, huH.ld0 hz 3 true (by decide), e3, (lkG hb.mp z.1).2 hA, hw2, msG hb.mp hA (j : Int) z.2.1, happ, List.replicate_zero, repl]
              exact ⟨(_, _, _, _, _), hb2, by simp [Has, rd_s], rfl, by simp only [List.length_append, List.length_cons, List.length_nil]; omega⟩
            · have hw2 : c < z.2.2 := by omega
              simp (maxSteps := 4000000) -implicitDefEqProofs -dsimp (disch := omega) only [↓AW_skip, ↓AW_ops, ↓AW_seq, ↓AW_cond, ↓AW_block, ↓AW_exit, ↓AW_ret, ↓AOps_nil, ↓AOps_pu, ↓AOps_ld, ↓AOps_guard, on_some, guardB_ff, condB_t, ↓then_normal, ↓then_exit, ↓inBlock_exit, ↓FinR_ret, pval, lval_ld, lval_look, rd_S, rd_C, put_S, resV, resL, chkd, isAdr, bput, bgot, cells_agg, splice, partA, eq_self, mk, List.foldl_cons, List.foldl_nil, List.replicate_succ, List.replicate_zero, List.set_cons_zero, List.set_cons_succ, List.getElem?_cons_zero, List.getElem?_cons_succ, List.drop_zero, List.drop_succ_cons, List.drop_nil, List.take_zero, List.take_succ_cons, List.take_nil, Option.getD_some, Option.map_some, Option.map_none, List.length_cons, List.length_nil, Nat.reduceAdd, Nat.reduceLeDiff, Nat.reduceEqDiff, Nat.zero_add, List.nil_append, List.append_nil, bin_add, bin_eql, bin_lss, bin_gtr, w64, if_true, if_false, Bool.false_eq_true, decide_true, true_and, reduceCtorEq, ne_eq, not_true_eq_false, ↓inScope_exit, ↓inScope_ret, hlt', huH.idx hlt, huH.ld0 hz 3 true (by decide), e3, (lkG hb.mp z.1).2 hA, hw2]
              exact ⟨j + 1, ⟨hlt, hnext (fun q hq => absurd (hjz q hq).1 hw)⟩, by simp [Has, rd_s], by omega⟩
        · by_cases hA2 : p = z.1
          case neg =>
            simp (maxSteps := 4000000) -implicitDefEqProofs -dsimp (disch := omega) only [↓AW_skip, ↓AW_ops, ↓AW_seq, ↓AW_cond, ↓AW_block, ↓AW_exit, ↓AW_ret, ↓AOps_nil, ↓AOps_pu, ↓AOps_ld, on_some, condB_t, condB_f, ↓then_normal, ↓then_exit, ↓inBlock_exit, ↓FinR_ret, pval, lval_ld, rd_S, rd_C, put_S, resV, resL, chkd, isAdr, bput, bgot, cells_agg, splice, partA, eq_self, mk, List.foldl_cons, List.foldl_nil, List.replicate_succ, List.replicate_zero, List.set_cons_zero, List.set_cons_succ, List.getElem?_cons_zero, List.getElem?_cons_succ, List.drop_zero, List.drop_succ_cons, List.drop_nil, List.take_zero, List.take_succ_cons, List.take_nil, Option.getD_some, Option.map_some, Option.map_none, List.length_cons, List.length_nil, Nat.reduceAdd, Nat.reduceLeDiff, Nat.reduceEqDiff, Nat.zero_add, List.nil_append, List.append_nil, bin_add, bin_eql, bin_neq, bin_lss, w64, if_true, if_false, Bool.false_eq_true, decide_true, decide_false, true_and, reduceCtorEq, ne_eq, not_true_eq_false, not_false_eq_true, ↓inScope_exit, ↓inScope_ret, hlt', huH.idx hlt, huH.ld0 hz 3 true (by decide), e3, hB, hA2]
            refine ⟨j + 1, ⟨hlt, hnext (fun q hq => ?_)⟩, by simp [Has, rd_s], by omega⟩
            rcases (hjz q hq).2 with ⟨g1, _⟩ | ⟨_, g2⟩
            · exact absurd g1.symm hA2
            · exact absurd g2.symm hB
          subst hA2
          by_cases hA : z.2.1 ∈ ks
          · simp (maxSteps := 4000000) -implicitDefEqProofs -dsimp (disch := omega) only [↓AW_skip, ↓AW_ops, ↓AW_seq, ↓AW_cond, ↓AW_block, ↓AW_exit, ↓AW_ret, ↓AOps_nil, ↓AOps_pu, ↓AOps_ld, ↓AOps_guard, on_some, guardB_tf, skipS_some, condB_t, condB_f, ↓then_normal, ↓then_exit, ↓inBlock_exit, ↓FinR_ret, pval, lval_ld, lval_look, rd_S, rd_C, put_S, resV, resL, chkd, isAdr, bput, bgot, cells_agg, splice, partA, eq_self, mk, List.foldl_cons, List.foldl_nil, List.replicate_succ, List.replicate_zero, List.set_cons_zero, List.set_cons_succ, List.getElem?_cons_zero, List.getElem?_cons_succ, List.drop_zero, List.drop_succ_cons, List.drop_nil, List.take_zero, List.take_succ_cons, List.take_nil, Option.getD_some, Option.map_some, Option.map_none, List.length_cons, List.length_nil, Nat.reduceAdd, Nat.reduceLeDiff, Nat.reduceEqDiff, Nat.zero_add, List.nil_append, List.append_nil, bin_add, bin_eql, bin_neq, bin_lss, w64, if_true, if_false, Bool.false_eq_true, decide_true, decide_false, true_and, reduceCtorEq, ne_eq, not_true_eq_false, ↓inScope_exit, ↓inScope_ret, hlt', huH.idx hlt, huH.ld0 hz 3 true (by decide), e3, hB, (lkG hb.mp z.2.1).1 hA]
            refine ⟨j + 1, ⟨hlt, hnext (fun q hq => ?_)⟩, by simp [Has, rd_s], by omega⟩
            rcases (hjz q hq).2 with ⟨_, g2⟩ | ⟨_, g2⟩
            · rw [← g2]; exact hA
            · exact absurd g2.symm hB
          · by_cases hw : z.2.2 ≤ c
            · have hw2 : ¬ c < z.2.2 := by omega
              obtain ⟨y', H2, happ, hb2⟩ := hb.push hn ha hA hpk (hjn z.2.1 hw (.inl ⟨rfl, rfl⟩))
              have hle2 := hb2.le hn ha
              rw [List.length_append, List.length_singleton] at hle2
              simp (maxSteps := 4000000) -implicitDefEqProofs -dsimp (disch := omega) only [↓AW_skip, ↓AW_ops, ↓AW_seq, ↓AW_cond, ↓AW_block, ↓AW_exit, ↓AW_ret, ↓AOps_nil, ↓AOps_pu, ↓AOps_ld, ↓AOps_ha, ↓AOps_guard, on_some, extK_false, extK_app, guardB_ff, condB_t, condB_f, ↓then_normal, ↓then_exit, ↓inBlock_exit, ↓FinR_ret, pval, lval_ld, lval_look, hval_blds, hval_app, hval_mset, rd_S, rd_C, put_S, putS_none, resV, resL, chkd, isAdr, bput, bgot, cells_agg, cells_int, splice, partA, fillA, repl, eq_self, mk, List.foldl_cons, List.foldl_nil, List.replicate_succ, List.replicate_zero, List.set_cons_zero, List.set_cons_succ, List.getElem?_cons_zero, List.getElem?_cons_succ, List.drop_zero, List.drop_succ_cons, List.drop_nil, List.take_zero, List.take_succ_cons, List.take_nil, Option.getD_some, Option.map_some, Option.map_none, map_c, map_n, List.length_cons, List.length_nil, Nat.reduceAdd, Nat.reduceLeDiff, Nat.reduceEqDiff, Nat.zero_add, List.cons_append, List.nil_append, List.append_nil, bin_add, bin_eql, bin_neq, bin_lss, bin_gtr, w64, if_true, if_false, Bool.false_eq_true, decide_true, decide_false, true_and, and_true, reduceCtorEq, ne_eq, not_true_eq_false, ↓inScope_exit, ↓inScope_ret, hlt', huH.idx hlt, huH.ld0 hz 3 true (by decide), e3, hB, (lkG hb.mp z.2.1).2 hA, hw2, msG hb.mp hA (j : Int) z.1, happ, List.replicate_zero, repl]
              exact ⟨(_, _, _, _, _), hb2, by simp [Has, rd_s], rfl, by simp only [List.length_append, List.length_cons, List.length_nil]; omega⟩
            · have hw2 : c < z.2.2 := by omega
              simp (maxSteps := 4000000) -implicitDefEqProofs -dsimp (disch := omega) only [↓AW_skip, ↓AW_ops, ↓AW_seq, ↓AW_cond, ↓AW_block, ↓AW_exit, ↓AW_ret, ↓AOps_nil, ↓AOps_pu, ↓AOps_ld, ↓AOps_guard, on_some, guardB_ff, condB_t, condB_f, ↓then_normal, ↓then_exit, ↓inBlock_exit, ↓FinR_ret, pval, lval_ld, lval_look, rd_S, rd_C, put_S, resV, resL, chkd, isAdr, bput, bgot, cells_agg, splice, partA, eq_self, mk, List.foldl_cons, List.foldl_nil, List.replicate_succ, List.replicate_zero, List.set_cons_zero, List.set_cons_succ, List.getElem?_cons_zero, List.getElem?_cons_succ, List.drop_zero, List.drop_succ_cons, List.drop_nil, List.take_zero, List.take_succ_cons, List.take_nil, Option.getD_some, Option.map_some, Option.map_none, List.length_cons, List.length_nil, Nat.reduceAdd, Nat.reduceLeDiff, Nat.reduceEqDiff, Nat.zero_add, List.nil_append, List.append_nil, bin_add, bin_eql, bin_neq, bin_lss, bin_gtr, w64, if_true, if_false, Bool.false_eq_true, decide_true, decide_false, true_and, reduceCtorEq, ne_eq, not_true_eq_false, ↓inScope_exit, ↓inScope_ret, hlt', huH.idx hlt, huH.ld0 hz 3 true (by decide), e3, hB, (lkG hb.mp z.2.1).2 hA, hw2]
              exact ⟨j + 1, ⟨hlt, hnext (fun q hq => absurd (hjz q hq).1 hw)⟩, by simp [Has, rd_s], by omega⟩
      · have hlt' : ¬ ((j : Int) < rs.length) := by omega
        obtain ⟨y', hs, hb2⟩ := hb.pop (fun k q hq => hc k q (by have := hq.1; omega) hq)
        simp (maxSteps := 4000000) -implicitDefEqProofs -dsimp (disch := omega) only [↓AW_ops, ↓AW_seq, ↓AW_cond, ↓AW_exit, ↓AW_ret, ↓AOps_nil, ↓AOps_pu, on_some, condB_f, ↓then_normal, ↓then_exit, ↓inBlock_normal, ↓inBlock_exit, ↓FinR_ret, pval, rd_S, rd_C, put_S, resV, resL, eq_self, mk, List.foldl_cons, List.foldl_nil, List.replicate_succ, List.replicate_zero, List.set_cons_zero, List.set_cons_succ, List.getElem?_cons_zero, List.getElem?_cons_succ, Option.getD_some, Option.map_some, Option.map_none, List.length_cons, List.length_nil, Nat.reduceAdd, Nat.reduceLeDiff, Nat.reduceEqDiff, Nat.zero_add, bin_lss, if_true, if_false, decide_false, true_and, reduceCtorEq, ↓inScope_exit, ↓inScope_ret, hlt', hs]
        exact ⟨(_, _, _, _, _), hb2, by simp [Has, rd_s], rfl, by simp only []; omega⟩
  obtain ⟨r, H, h1, rfl, h2⟩ := key
  exact ⟨H, h1, h2⟩
end
end Go.Proofs.Ytkgfcdpckfhknaa

namespace Go.Proofs.Ytkgfcdpckfhknaa
open Go Go.Eng
/-- The error of a search for a wall. -/
def hE (Q : Int) (rs : List Rd) (a b c : Int) : Int := if pE Q rs a b = 0 then (if 0 ≤ c ∧ c ≤ 99 then 0 else 1) else pE Q rs a b
noncomputable def hB (Q : Int) (rs : List Rd) (a b c : Int) : Bool := decide (hE Q rs a b c = 0 ∧ ¬ cnT rs (nums rs) c a b)
/-- The places that are reached. -/
noncomputable def rS (P : Nat) (rs : List Rd) (a c : Int) : List Int := (plc P).filter (fun p => decide (cnT rs (nums rs) c a p))
theorem hE_0 {Q : Int} {rs : List Rd} {a b c : Int} : hE Q rs a b c = 0 ↔ pE Q rs a b = 0 ∧ 0 ≤ c ∧ c ≤ 99 := by
  unfold hE
  by_cases h : pE Q rs a b = 0
  · rw [if_pos h]
    by_cases h2 : 0 ≤ c ∧ c ≤ 99
    · rw [if_pos h2]; exact ⟨fun _ => ⟨h, h2⟩, fun _ => rfl⟩
    · rw [if_neg h2]; exact ⟨fun e => absurd e (by decide), fun e => absurd e.2 h2⟩
  · rw [if_neg h]; exact ⟨fun e => absurd e h, fun e => absurd e.1 h⟩
theorem orE_w (x : Int) (p : Prop) [Decidable p] : orE [x, if p then 0 else 1] = if x = 0 then (if p then 0 else 1) else x := by
  unfold orE orE orE
  by_cases h : p
  · simp [h]
  · simp [h]
theorem mem_rS {P : Nat} {rs : List Rd} {a c p : Int} : p ∈ rS P rs a c ↔ (0 ≤ p ∧ p < P) ∧ cnT rs (nums rs) c a p := by
  unfold rS
  rw [List.mem_filter, mem_plc, decide_eq_true_eq]
theorem plc_okS (P : Nat) : okS P (plc P) := by
  refine ⟨fun x hx => by have := mem_plc.1 hx; omega, ?_⟩
  unfold plc
  rw [List.pairwise_map]
  refine List.pairwise_lt_range.imp (fun h => ?_)
  show (_ : Int) < _
  exact Int.ofNat_lt.2 h
theorem rS_wall {P : Nat} {rs : List Rd} {a b c : Int} (h : hE P rs a b c = 0) (hn : ¬ cnT rs (nums rs) c a b) : xE P rs a b c (rS P rs a c) = 0 := by
  obtain ⟨h1, h2⟩ := hE_0.1 h
  obtain ⟨hN, ha, hb⟩ := pE_0.1 h1
  have hok := plc_okS P
  refine xE_0.2 ⟨h1, ⟨⟨fun x hx => hok.1 x (List.mem_filter.1 hx).1, hok.2.sublist List.filter_sublist⟩, h2⟩, ⟨mem_rS.2 ⟨by omega, .refl _⟩, fun hh => hn (mem_rS.1 hh).2⟩, fun r hr hx => ?_⟩
  obtain ⟨hx1, hx2⟩ := hx
  refine hx1 ?_
  have hK := hN.r r hr
  have h3 : Cn ((upTo (wct rs) (nums rs) c).map (rdx rs)) r.1 r.2.1 := (cnT_all (xs := rs)).2 (Cn.one (List.mem_filter.2 ⟨hr, decide_eq_true hx2⟩))
  rw [decide_eq_decide, mem_rS, mem_rS]
  constructor
  · rintro ⟨_, g⟩
    exact ⟨by have := hK.1.2; omega, Cn.trans g h3⟩
  · rintro ⟨_, g⟩
    exact ⟨by have := hK.1.1; omega, Cn.trans g h3.symm⟩
section
variable {Q : Int} {rs : List Rd} {ks : List Int} {u v : AV} {A : AHeap} {a b c : Int}
theorem s85 (hu : L3 A u rs) (hP : W Q) (a b c : Int) : ACalls Try.prog 85 [.agg [I Q, u], I a, I b, I c] A (I (hE Q rs a b c)) A := by
  refine acalls hmix Try.func85 (by kernel_rfl) t85 4 rfl (by decide) ?_
  dsimp only [m85]
  simp (maxSteps := 4000000) -implicitDefEqProofs -dsimp (disch := omega) only [↓AW_ops, ↓AW_seq, ↓AOps_nil, ↓AOps_pu, ↓AOps_call, on_some, ↓then_normal, pval, rd_S, rd_C, put_S, chkd, bgot, AV.cells?, partA, eq_self, List.replicate_succ, List.replicate_zero, List.set_cons_zero, List.set_cons_succ, List.getElem?_cons_zero, List.getElem?_cons_succ, List.drop_zero, List.take_succ_cons, List.take_nil, Option.getD_some, map_c, map_n, List.length_cons, List.length_nil, Nat.reduceAdd, Nat.reduceSub, Nat.reduceLeDiff, Nat.reduceEqDiff, Nat.zero_add, List.cons_append, List.nil_append, if_true, if_false]
  refine CallK.of (s72 hu hP a b) ?_
  simp (maxSteps := 4000000) -implicitDefEqProofs -dsimp (disch := omega) only [↓AOps_pu, ↓AOps_call, on_some, extK_same, pval, rd_S, put_S, List.replicate_succ, List.replicate_zero, List.set_cons_zero, List.set_cons_succ, List.getElem?_cons_zero, List.getElem?_cons_succ, Option.getD_some, map_c, map_n, Nat.reduceSub, List.cons_append, List.nil_append]
  refine CallK.of (s83 c A) ?_
  simp (maxSteps := 4000000) -implicitDefEqProofs -dsimp (disch := omega) only [↓AOps_ha, ↓AOps_call, on_some, extK_app, extK_same, hval, rd_S, put_S, AV.cells?, splice, fillA, repl, eq_self, List.replicate_succ, List.replicate_zero, List.set_cons_zero, List.set_cons_succ, List.getElem?_cons_zero, List.getElem?_cons_succ, List.drop_zero, List.drop_succ_cons, List.drop_nil, List.take_zero, List.take_succ_cons, Option.getD_some, map_c, map_n, List.length_cons, List.length_nil, Nat.reduceAdd, Nat.reduceSub, Nat.reduceLeDiff, Nat.zero_add, List.cons_append, List.nil_append, List.append_nil, if_true, and_true, List.replicate_zero, repl]
  refine CallK.of (s57 (L1_two A _ _) (by simp)) ?_
  rw [orE_w]
  simp (maxSteps := 4000000) -implicitDefEqProofs -dsimp (disch := omega) only [↓AW_ret, ↓AOps_nil, ↓AOps_pu, on_some, extK_same, ↓then_normal, ↓Fin_ret, pval, rd_S, put_S, resV, resL, List.replicate_succ, List.replicate_zero, List.set_cons_zero, List.set_cons_succ, List.getElem?_cons_zero, List.getElem?_cons_succ, Option.getD_some, Nat.reduceSub, List.cons_append, List.nil_append]
  exact gc_val (pre_app _ _) rfl
set_option maxRecDepth 20000 in
set_option maxHeartbeats 16000000 in
theorem s39 (hu : L3 A u rs) (hP : W Q) (a b c : Int) : ∃ r H, ACalls Try.prog 39 [.agg [I Q, u], I a, I b, I c] A (.tuple [r, B (hB Q rs a b c), I (hE Q rs a b c)]) H ∧ A <+: H ∧ ((hB Q rs a b c = true → L1 H r (rS Q.toNat rs a c)) ∧ (hB Q rs a b c = false → r = .nilS)) := by
  have key : ∃ t H, ACalls Try.prog 39 [.agg [I Q, u], I a, I b, I c] A t H ∧ ∃ r, t = .tuple [r, B (hB Q rs a b c), I (hE Q rs a b c)] ∧ A <+: H ∧ ((hB Q rs a b c = true → L1 H r (rS Q.toNat rs a c)) ∧ (hB Q rs a b c = false → r = .nilS)) := by
    refine acallsR hmix Try.func39 (by kernel_rfl) t39 _ 4 rfl (by decide) ?_
    dsimp only [m39]
    simp (maxSteps := 4000000) -implicitDefEqProofs -dsimp (disch := omega) only [↓AW_ops, ↓AW_seq, ↓AOps_nil, ↓AOps_pu, ↓AOps_call, on_some, ↓then_normal, pval, rd_S, rd_C, put_S, chkd, bgot, cells_agg, partA, eq_self, List.replicate_succ, List.replicate_zero, List.set_cons_zero, List.set_cons_succ, List.getElem?_cons_zero, List.getElem?_cons_succ, List.drop_zero, List.take_succ_cons, List.take_nil, Option.getD_some, map_c, map_n, List.length_cons, List.length_nil, Nat.reduceAdd, Nat.reduceSub, Nat.reduceLeDiff, Nat.reduceEqDiff, Nat.zero_add, List.cons_append, List.nil_append, if_true, if_false]
    refine CallK.of (s85 hu hP a b c) ?_
    by_cases h0 : hE Q rs a b c = 0
    case neg =>
      have hb1 : hB Q rs a b c = false := decide_eq_false (fun h => h0 h.1)
      rw [hb1]
      simp (maxSteps := 4000000) -implicitDefEqProofs -dsimp (disch := omega) only [↓AW_ops, ↓AW_seq, ↓AW_cond, ↓AW_ret, ↓AOps_nil, ↓AOps_pu, on_some, extK_same, condB_t, ↓then_normal, ↓then_ret, ↓FinR_ret, pval, rd_S, rd_C, put_S, resV, resL, eq_self, List.replicate_succ, List.replicate_zero, List.set_cons_zero, List.set_cons_succ, List.getElem?_cons_zero, List.getElem?_cons_succ, Option.getD_some, Nat.reduceSub, List.cons_append, List.nil_append, bin_neq, Bool.false_eq_true, decide_true, forall_const, true_and, false_implies, not_false_eq_true, h0]
      exact ⟨_, _, gc_same rfl, _, rfl, List.prefix_refl _, rfl⟩
    obtain ⟨h1, h2⟩ := hE_0.1 h0
    obtain ⟨hn, ha, hb⟩ := pE_0.1 h1
    obtain ⟨P, rfl⟩ := hn.nat
    have hp7 := hn.p7
    rw [h0, Int.toNat_natCast]
    simp (maxSteps := 4000000) -implicitDefEqProofs -dsimp (disch := omega) only [↓AW_skip, ↓AW_ops, ↓AW_seq, ↓AW_cond, ↓AOps_nil, ↓AOps_pu, ↓AOps_call, on_some, extK_same, condB_f, ↓then_normal, pval, rd_S, rd_C, put_S, chkd, bgot, partA, eq_self, List.replicate_succ, List.replicate_zero, List.set_cons_zero, List.set_cons_succ, List.getElem?_cons_zero, List.getElem?_cons_succ, List.drop_zero, List.take_succ_cons, List.take_nil, Option.getD_some, map_c, map_n, List.length_cons, List.length_nil, Nat.reduceAdd, Nat.reduceSub, Nat.reduceLeDiff, Nat.reduceEqDiff, Nat.zero_add, List.cons_append, List.nil_append, bin_neq, if_true, if_false, decide_false, not_true_eq_false]
    obtain ⟨H, hc, hp, kk, g, hm, hbt, hiff⟩ := c_reached (c := c) hu hn (a := a) (by omega)
    refine CallK.of hc ?_
    by_cases hcn : cnT rs (nums rs) c a b
    · have hb1 : hB P rs a b c = false := decide_eq_false (fun h => h.2 hcn)
      rw [hb1]
      simp (maxSteps := 4000000) -implicitDefEqProofs -dsimp (disch := omega) only [↓AW_ops, ↓AW_seq, ↓AW_cond, ↓AW_ret, ↓AOps_nil, ↓AOps_pu, ↓AOps_ld, on_some, extK_false, condB_t, ↓then_normal, ↓then_ret, ↓FinR_ret, pval, lval_look, rd_S, rd_C, put_S, resV, resL, chkd, bput, cells_agg, splice, eq_self, List.replicate_succ, List.replicate_zero, List.set_cons_zero, List.set_cons_succ, List.getElem?_cons_zero, List.getElem?_cons_succ, List.drop_succ_cons, List.drop_nil, List.take_zero, Option.getD_some, List.length_cons, List.length_nil, Nat.reduceAdd, Nat.reduceSub, Nat.reduceLeDiff, Nat.zero_add, List.cons_append, List.nil_append, List.append_nil, if_true, if_false, Bool.false_eq_true, forall_const, true_and, false_implies, ne_eq, not_true_eq_false, (lkG hm b).1 ((hiff b).2 hcn)]
      exact ⟨_, _, gc_val hp rfl, _, rfl, List.prefix_refl _, rfl⟩
    have hb1 : hB P rs a b c = true := decide_eq_true ⟨h0, hcn⟩
    rw [hb1]
    simp (maxSteps := 4000000) -implicitDefEqProofs -dsimp (disch := omega) only [↓AW_skip, ↓AW_ops, ↓AW_seq, ↓AW_cond, ↓AW_block, ↓AOps_nil, ↓AOps_pu, ↓AOps_ld, on_some, extK_false, condB_f, ↓then_normal, pval, lval_look, rd_S, rd_C, put_S, ↓AW_toLoop, chkd, isAdr, bput, bgot, cells_agg, splice, partA, eq_self, List.replicate_succ, List.replicate_zero, List.set_cons_zero, List.set_cons_succ, List.getElem?_cons_zero, List.getElem?_cons_succ, List.drop_zero, List.drop_succ_cons, List.drop_nil, List.take_zero, List.take_succ_cons, Option.getD_some, List.length_cons, List.length_nil, Nat.reduceAdd, Nat.reduceSub, Nat.reduceLeDiff, Nat.zero_add, List.cons_append, List.nil_append, List.append_nil, if_true, if_false, Bool.false_eq_true, ne_eq, not_true_eq_false, (lkG hm b).2 (fun h => hcn ((hiff b).1 h))]
    refine LoopK.by 56 (fun x : Nat × AV × AHeap => x.1 ≤ P ∧ AccL 1 e1 H x.2.2 x.2.1 (rS x.1 rs a c)) (fun x => [(12, .mp A.length), (15, x.2.1), (39, I P), (40, I x.1)]) (fun x => x.2.2) (fun x => P - x.1) (0, .nilS, H) ⟨by simp only; omega, AccL.nil (List.prefix_refl _)⟩ rfl (by simp [Has, rd_s]) rfl ?_
    rintro ⟨i, y, H1⟩ ⟨hi, hac⟩
    simp only at hi hac
    have hm1 := pre_get hac.1 hm
    by_cases hlt : i < P
    · have hlt' : (i : Int) < P := by omega
      have hfl := filt_len (fun p => decide (cnT rs (nums rs) c a p)) i
      have hsu := filt_succ (fun p => decide (cnT rs (nums rs) c a p)) i
      by_cases hq : cnT rs (nums rs) c a (i : Int)
      · rw [if_pos (decide_eq_true hq)] at hsu
        obtain ⟨v', H2, happ, hacc, _, n, len, rfl, _⟩ := AccL_push2 hac e1_len (by omega) (i : Int) (by unfold rS; simp only [lim]; omega)
        simp only [Go.Eng.e1] at happ
        simp (maxSteps := 4000000) -implicitDefEqProofs -dsimp (disch := omega) only [↓AW_skip, ↓AW_ops, ↓AW_seq, ↓AW_cond, ↓AW_block, ↓AOps_nil, ↓AOps_pu, ↓AOps_ld, ↓AOps_ha, on_some, extK_false, extK_app, condB_t, ↓then_normal, ↓inBlock_normal, pval, lval_look, hval_blds, hval_app, rd_S, rd_C, put_S, chkd, bput, cells_agg, cells_int, splice, fillA, repl, eq_self, mk, List.foldl_cons, List.foldl_nil, List.replicate_succ, List.replicate_zero, List.set_cons_zero, List.set_cons_succ, List.getElem?_cons_zero, List.getElem?_cons_succ, List.drop_succ_cons, List.drop_nil, List.take_zero, Option.getD_some, map_c, map_n, List.length_cons, List.length_nil, Nat.reduceAdd, Nat.reduceLeDiff, Nat.zero_add, List.nil_append, List.append_nil, bin_add, bin_lss, w64, if_true, if_false, decide_true, true_and, and_true, ne_eq, not_true_eq_false, hlt', (lkG hm1 i).1 ((hiff i).2 hq), happ, List.replicate_zero, repl]
        refine ⟨(i + 1, .sl 1 n 0 len false, H2), ⟨hlt, ?_⟩, by simp [Has, rd_s], rfl, by simp only; omega⟩
        simp only
        unfold rS
        rw [hsu]
        exact hacc
      · rw [if_neg (by simp [hq]), List.append_nil] at hsu
        simp (maxSteps := 4000000) -implicitDefEqProofs -dsimp (disch := omega) only [↓AW_skip, ↓AW_ops, ↓AW_seq, ↓AW_cond, ↓AW_block, ↓AOps_nil, ↓AOps_pu, ↓AOps_ld, on_some, condB_t, condB_f, ↓then_normal, ↓inBlock_normal, pval, lval_look, rd_S, rd_C, put_S, chkd, bput, cells_agg, splice, eq_self, mk, List.foldl_cons, List.foldl_nil, List.replicate_succ, List.replicate_zero, List.set_cons_zero, List.set_cons_succ, List.getElem?_cons_zero, List.getElem?_cons_succ, List.drop_succ_cons, List.drop_nil, List.take_zero, Option.getD_some, List.length_cons, List.length_nil, Nat.reduceAdd, Nat.reduceLeDiff, Nat.zero_add, List.nil_append, List.append_nil, bin_add, bin_lss, w64, if_true, if_false, decide_true, true_and, ne_eq, not_true_eq_false, hlt', (lkG hm1 i).2 (fun h => hq ((hiff i).1 h))]
        refine ⟨(i + 1, y, H1), ⟨hlt, ?_⟩, by simp [Has, rd_s], rfl, by simp only; omega⟩
        simp only
        unfold rS
        rw [hsu]
        exact hac
    · have hlt' : ¬ ((i : Int) < P) := by omega
      have hiP : i = P := by omega
      subst hiP
      simp (maxSteps := 4000000) -implicitDefEqProofs -dsimp (disch := omega) only [↓AW_ops, ↓AW_seq, ↓AW_cond, ↓AW_exit, ↓AW_ret, ↓AOps_nil, ↓AOps_pu, on_some, condB_f, ↓then_normal, ↓then_exit, ↓inBlock_exit, ↓FinR_ret, pval, rd_S, rd_C, put_S, resV, resL, eq_self, mk, List.foldl_cons, List.foldl_nil, List.replicate_succ, List.replicate_zero, List.set_cons_zero, List.set_cons_succ, List.getElem?_cons_zero, List.getElem?_cons_succ, Option.getD_some, bin_lss, if_true, decide_false, forall_const, and_true, false_implies, reduceCtorEq, hlt']
      exact ⟨_, _, gc_all, _, rfl, hp.trans hac.1, AccL_ls hac e1_len⟩
  obtain ⟨t, H, h1, r, rfl, h2⟩ := key
  exact ⟨r, H, h1, h2⟩
end
end Go.Proofs.Ytkgfcdpckfhknaa

namespace Go.Proofs.Ytkgfcdpckfhknaa
open Go Go.Eng
/-- What stands at a place of a list that is half turned. -/
def hrev {α : Type} (xs zs : List α) (i : Nat) : Prop := zs.length = xs.length ∧ ∀ k, k < xs.length → zs[k]? = if k < i ∨ xs.length - 1 - i < k then xs[xs.length - 1 - k]? else xs[k]?
theorem hrev_0 {α : Type} (xs : List α) : hrev xs xs 0 := ⟨rfl, fun k hk => by rw [if_neg (by omega)]⟩
theorem hrev_end {α : Type} {xs zs : List α} {i : Nat} (h : hrev xs zs i) (hi : xs.length ≤ 2 * i + 1) : zs = xs.reverse := by
  refine List.ext_getElem? (fun k => ?_)
  by_cases hk : k < xs.length
  · rw [h.2 k hk, List.getElem?_reverse hk]
    split
    · rfl
    · have : xs.length - 1 - k = k := by omega
      rw [this]
  · rw [List.getElem?_eq_none (by rw [h.1]; omega), List.getElem?_eq_none (by simp; omega)]
theorem hrev_step {α : Type} {xs zs : List α} {i : Nat} (h : hrev xs zs i) (hi : 2 * i + 1 < xs.length) {a b : α} (ha : zs[i]? = some a) (hb : zs[xs.length - 1 - i]? = some b) :
    hrev xs ((zs.set i b).set (xs.length - 1 - i) a) (i + 1) := by
  refine ⟨by simp [h.1], fun k hk => ?_⟩
  have h1 := h.2 i (by omega)
  rw [if_neg (by omega), ha] at h1
  have h2 := h.2 (xs.length - 1 - i) (by omega)
  rw [if_neg (by omega), hb] at h2
  by_cases hk1 : k = xs.length - 1 - i
  · subst hk1
    rw [List.getElem?_set_self (by simp [h.1]; omega), if_pos (by omega), h1]
    congr 1
    omega
  · rw [List.getElem?_set_ne (Ne.symm hk1)]
    by_cases hk2 : k = i
    · subst hk2
      rw [List.getElem?_set_self (by rw [h.1]; omega), if_pos (by omega), h2]
    · rw [List.getElem?_set_ne (Ne.symm hk2), h.2 k hk]
      by_cases h3 : k < i ∨ xs.length - 1 - i < k
      · rw [if_pos h3, if_pos (by omega)]
      · rw [if_neg h3, if_neg (by omega)]
set_option maxHeartbeats 4000000 in
theorem c_Reverse {xs : List Int} {v : AV} {A H : AHeap} {n : Nat} (h : OL 1 e1 A H n v xs) (hl : xs.length ≤ 1000000) : ACalls Try.prog 82 [v] H (.tuple []) (H.set n (.cells true (xs.reverse.flatMap e1))) := by
  refine acalls hmix Try.func82 (by kernel_rfl) t82 1 rfl (by decide) ?_
  dsimp only [m82]
  simp (maxSteps := 4000000) -implicitDefEqProofs -dsimp (disch := omega) only [↓AW_ops, ↓AW_seq, ↓AW_block, ↓AOps_nil, ↓AOps_pu, on_some, ↓then_normal, pval, rd_S, rd_C, put_S, ↓AW_toLoop, List.replicate_succ, List.replicate_zero, List.set_cons_zero, List.set_cons_succ, List.getElem?_cons_zero, List.getElem?_cons_succ, Option.getD_some, Nat.reduceSub, List.cons_append, List.nil_append, bin_sub, w64, h.ls.len]
  refine LoopK.by 28 (fun x : Nat × List Int => (2 * x.1 ≤ xs.length + 1 ∧ hrev xs x.2 x.1)) (fun x => [(0, v), (2, I x.1), (3, I ((xs.length : Int) - 1 - x.1))]) (fun x => H.set n (.cells true (x.2.flatMap e1))) (fun x => xs.length - x.1) (0, xs) ⟨by simp only; omega, hrev_0 xs⟩ rfl (by simp [Has, rd_s]) (by simp only; rw [set_same h.ob]) ?_
  rintro ⟨i, zs⟩ ⟨hi, hz⟩
  simp only at hi hz
  have ho := OL_setAll h zs hz.1
  by_cases hlt : (i : Int) < (xs.length : Int) - 1 - i
  · have hin : i < xs.length := by omega
    have hjl : xs.length - 1 - i < zs.length := by rw [hz.1]; omega
    have hil : i < zs.length := by rw [hz.1]; omega
    have hj : (xs.length : Int) - 1 - i = ((xs.length - 1 - i : Nat) : Int) := by omega
    obtain ⟨a, ha⟩ : ∃ a, zs[i]? = some a := ⟨_, List.getElem?_eq_getElem hil⟩
    obtain ⟨b, hb⟩ : ∃ b, zs[xs.length - 1 - i]? = some b := ⟨_, List.getElem?_eq_getElem hjl⟩
    have hlt' := hlt
    rw [hj] at hlt'
    have h1 := ho.st hil (I b) b rfl
    rw [List.set_set] at h1
    have ho2 := OL_setAll h (zs.set i b) (by simp [hz.1])
    have hjl2 : xs.length - 1 - i < (zs.set i b).length := by simpa using hjl
    have h2 := ho2.st hjl2 (I a) a rfl
    rw [List.set_set] at h2
    have hst := hrev_step hz (by omega) ha hb
    generalize hJ : xs.length - 1 - i = j at *
    simp (maxSteps := 4000000) -implicitDefEqProofs -dsimp (disch := omega) only [↓AW_skip, ↓AW_ops, ↓AW_seq, ↓AW_cond, ↓AW_block, ↓AOps_nil, ↓AOps_pu, ↓AOps_ld, ↓AOps_ha, on_some, extK_false, condB_t, ↓then_normal, ↓inBlock_normal, pval, lval, hval_st, rd_S, rd_C, put_S, putS_none, partA, eq_self, mk, List.foldl_cons, List.foldl_nil, List.replicate_succ, List.replicate_zero, List.set_cons_zero, List.set_cons_succ, List.getElem?_cons_zero, List.getElem?_cons_succ, List.drop_zero, List.take_succ_cons, List.take_nil, Option.getD_some, Option.map_some, List.length_cons, List.length_nil, Nat.reduceAdd, Nat.reduceLeDiff, Nat.zero_add, bin_add, bin_sub, bin_lss, w64, if_true, if_false, Bool.false_eq_true, decide_true, Go.Eng.e1, true_and, hj, hlt', ho.ls.idx hil, ho.ls.idx hjl, ho.ls.ld0 ha 1 false (by decide), ho.ls.ld0 hb 1 false (by decide), h1, h2]
    refine ⟨(i + 1, _), ⟨by simp only; omega, hst⟩, by simp [Has, rd_s]; omega, rfl, by simp only; omega⟩
  · have he := hrev_end hz (by omega)
    simp (maxSteps := 4000000) -implicitDefEqProofs -dsimp (disch := omega) only [↓AW_ops, ↓AW_seq, ↓AW_cond, ↓AW_exit, ↓AOps_nil, ↓AOps_pu, on_some, condB_f, ↓then_normal, ↓then_exit, ↓inBlock_exit, ↓Fin_normal, pval, rd_S, put_S, resV, resL, eq_self, mk, List.foldl_cons, List.foldl_nil, List.replicate_succ, List.replicate_zero, List.set_cons_zero, List.set_cons_succ, List.getElem?_cons_zero, List.getElem?_cons_succ, Option.getD_some, bin_lss, if_true, decide_false, hlt]
    rw [he] at ho ⊢
    exact gc_same_all rfl rfl
theorem c_ReverseNil (A : AHeap) : ACalls Try.prog 82 [.nilS] A (.tuple []) A := by
  refine acalls hmix Try.func82 (by kernel_rfl) t82 1 rfl (by decide) ?_
  dsimp only [m82]
  simp (maxSteps := 4000000) -implicitDefEqProofs -dsimp (disch := omega) only [↓AW_ops, ↓AW_seq, ↓AW_block, ↓AOps_nil, ↓AOps_pu, on_some, ↓then_normal, pval, rd_S, rd_C, put_S, ↓AW_toLoop, List.replicate_succ, List.replicate_zero, List.set_cons_zero, List.set_cons_succ, List.getElem?_cons_zero, List.getElem?_cons_succ, Option.getD_some, Nat.reduceSub, List.cons_append, List.nil_append, bin_sub, w64, Int.reduceNeg, Int.reduceSub, lenA]
  refine LoopK.by (α := Unit) 28 (fun _ => True) (fun _ => [(0, .nilS), (2, I 0), (3, I (-1))]) (fun _ => A) (fun _ => 0) () trivial rfl (by simp [Has, rd_s]) rfl ?_
  rintro x _
  simp (maxSteps := 4000000) -implicitDefEqProofs -dsimp (disch := omega) only [↓AW_ops, ↓AW_seq, ↓AW_cond, ↓AW_exit, ↓AOps_nil, ↓AOps_pu, on_some, condB_f, ↓then_normal, ↓then_exit, ↓inBlock_exit, ↓Fin_normal, pval, rd_S, put_S, resV, resL, eq_self, mk, List.foldl_cons, List.foldl_nil, List.replicate_succ, List.replicate_zero, List.set_cons_zero, List.set_cons_succ, List.getElem?_cons_zero, List.getElem?_cons_succ, Option.getD_some, bin_lss, if_true, decide_false, Int.reduceLT, Int.reduceNeg]
  exact gc_same_all rfl rfl
theorem c_RevAcc {A H : AHeap} {v : AV} {xs : List Int} (h : AccL 1 e1 A H v xs) (hl : xs.length ≤ 1000000) : ∃ H', ACalls Try.prog 82 [v] H (.tuple []) H' ∧ A <+: H' ∧ L1 H' v xs.reverse := by
  by_cases h0 : xs.length = 0
  · have hz : v = .nilS := by
      rcases h.2.2 with ⟨_, h4⟩ | ⟨h3, _⟩
      · exact h4
      · omega
    have hx : xs = [] := List.eq_nil_of_length_eq_zero h0
    subst hz
    subst hx
    exact ⟨H, c_ReverseNil H, h.1, L1_nil _⟩
  · obtain ⟨n, ho, hv⟩ := AccL_ol h e1_len (by omega)
    have ho2 := OL_setAll ho xs.reverse (by simp)
    exact ⟨_, c_Reverse ho hl, ho2.pre, ho2.ls⟩
/-- One road further on a way that is built from its end. -/
theorem wk_back {rs : List Rd} {c k p q b : Int} {out : List Int} (hj : jn rs c k p q) (hpq : ¬ p = q) (h : ∀ w, 0 ≤ w → w ≤ c → ∃ w', wk rs (q, w) out.reverse = some (b, w') ∧ w' ≤ c) :
    ∀ w, 0 ≤ w → w ≤ c → ∃ w', wk rs (p, w) (out ++ [k]).reverse = some (b, w') ∧ w' ≤ c := by
  intro w h0 h1
  obtain ⟨w', h2, h3⟩ := h (max w (wct rs k)) (by omega) (by have := hj.2.1; omega)
  refine ⟨w', ?_, h3⟩
  rw [List.reverse_append]
  show wk rs (p, w) (k :: out.reverse) = _
  rw [wk]
  have hs : stp rs (p, w) k = some (q, max w (wct rs k)) := by
    unfold stp
    rcases hj.2.2 with ⟨g1, g2⟩ | ⟨g1, g2⟩
    · rw [if_pos g1.symm, g2]
    · have hn : ¬ p = (rdx rs k).1 := by rw [g1]; exact hpq
      rw [if_neg hn, if_pos g2.symm, g1]
  rw [hs]
  exact h2
section
variable {Q : Int} {rs : List Rd} {ks : List Int} {u v : AV} {A : AHeap} {a b : Int}
theorem wB_t (h : wB Q rs a b = true) : pE Q rs a b = 0 ∧ bt rs (nums rs) a b = some (wC Q rs a b) := by
  unfold wB at h
  rw [Bool.and_eq_true, decide_eq_true_eq] at h
  refine ⟨h.1, ?_⟩
  unfold wC
  rw [if_pos h.1]
  cases hb : bt rs (nums rs) a b with
  | none => rw [hb] at h; simp at h
  | some d => rfl
theorem notOf_of (h : Nos rs ks) : ¬ notOf rs.length ks = true := by
  intro hn
  unfold notOf at hn
  rw [List.any_eq_true] at hn
  obtain ⟨k, hk, hx⟩ := hn
  have := h k hk
  rw [decide_eq_true (show 0 ≤ k ∧ k ≤ (rs.length : Int) - 1 from this)] at hx
  cases hx
set_option maxRecDepth 20000 in
set_option maxHeartbeats 16000000 in
theorem s36 (hu : L3 A u rs) (hP : W Q) (a b : Int) : ∃ r H, ACalls Try.prog 36 [.agg [I Q, u], I a, I b] A (.tuple [r, B (wB Q rs a b), I (pE Q rs a b)]) H ∧ A <+: H ∧ ((wB Q rs a b = true → ∃ ks, L1 H r ks ∧ ks.length ≤ 7 ∧ yE Q rs a b ks = 0 ∧ yC Q rs a b ks = wC Q rs a b) ∧ (wB Q rs a b = false → r = .nilS)) := by
  have key : ∃ t H, ACalls Try.prog 36 [.agg [I Q, u], I a, I b] A t H ∧ ∃ r, t = .tuple [r, B (wB Q rs a b), I (pE Q rs a b)] ∧ A <+: H ∧ ((wB Q rs a b = true → ∃ ks, L1 H r ks ∧ ks.length ≤ 7 ∧ yE Q rs a b ks = 0 ∧ yC Q rs a b ks = wC Q rs a b) ∧ (wB Q rs a b = false → r = .nilS)) := by
    refine acallsR hmix Try.func36 (by kernel_rfl) t36 _ 3 rfl (by decide) ?_
    dsimp only [m36]
    simp (maxSteps := 4000000) -implicitDefEqProofs -dsimp (disch := omega) only [↓AW_ops, ↓AW_seq, ↓AOps_nil, ↓AOps_pu, ↓AOps_call, on_some, ↓then_normal, pval, rd_S, rd_C, put_S, chkd, bgot, cells_agg, partA, eq_self, List.replicate_succ, List.replicate_zero, List.set_cons_zero, List.set_cons_succ, List.getElem?_cons_zero, List.getElem?_cons_succ, List.drop_zero, List.take_succ_cons, List.take_nil, Option.getD_some, map_c, map_n, List.length_cons, List.length_nil, Nat.reduceAdd, Nat.reduceSub, Nat.reduceLeDiff, Nat.reduceEqDiff, Nat.zero_add, List.cons_append, List.nil_append, if_true, if_false]
    refine CallK.of (s25 hu hP a b) ?_
    cases hw : wB Q rs a b with
    | false =>
      simp (maxSteps := 4000000) -implicitDefEqProofs -dsimp (disch := omega) only [↓AW_ops, ↓AW_seq, ↓AW_cond, ↓AW_ret, ↓AOps_nil, ↓AOps_pu, on_some, extK_same, condB_t, ↓then_normal, ↓then_ret, ↓FinR_ret, pval, rd_S, rd_C, put_S, resV, resL, eq_self, List.replicate_succ, List.replicate_zero, List.set_cons_zero, List.set_cons_succ, List.getElem?_cons_zero, List.getElem?_cons_succ, Option.getD_some, Nat.reduceSub, List.cons_append, List.nil_append, Bool.false_eq_true, Bool.not_false, forall_const, true_and, false_implies]
      exact ⟨_, _, gc_same rfl, _, rfl, List.prefix_refl _, rfl⟩
    | true =>
      obtain ⟨h0, hbt⟩ := wB_t hw
      obtain ⟨hn, ha, hb⟩ := pE_0.1 h0
      obtain ⟨P, rfl⟩ := hn.nat
      have hp7 := hn.p7
      rw [h0]
      have hc0 : 0 ≤ wC P rs a b := by
        rcases bt_spec hbt with ⟨_, h⟩ | ⟨_, h, _⟩ <;> omega
      have hcn : cnT rs (nums rs) (wC P rs a b) a b := by
        rcases bt_spec hbt with ⟨h, _⟩ | ⟨_, _, h, _⟩
        · rw [h]; exact .refl _
        · exact h
      have hfin : ∀ out : List Int, Nos rs out → (∀ w, 0 ≤ w → w ≤ wC P rs a b → ∃ w', wk rs (a, w) out.reverse = some (b, w') ∧ w' ≤ wC P rs a b) → yE P rs a b out.reverse = 0 ∧ yC P rs a b out.reverse = wC P rs a b := by
        intro out hno h
        obtain ⟨w', h1, h2⟩ := h 0 (Int.le_refl _) hc0
        have hy : yE P rs a b out.reverse = 0 := by
          rw [yE_s h0 (notOf_of (fun k hk => hno k (List.mem_reverse.1 hk))) h1, if_pos rfl]
        have h3 := (way_worst hy).2.2
        have h4 := yC_s hy h1
        refine ⟨hy, ?_⟩
        rw [h4] at h3 ⊢
        simp only at h3 ⊢
        omega
      generalize wC P rs a b = c at *
      simp (maxSteps := 4000000) -implicitDefEqProofs -dsimp (disch := omega) only [↓AW_skip, ↓AW_ops, ↓AW_seq, ↓AW_cond, ↓AOps_nil, ↓AOps_pu, ↓AOps_call, on_some, extK_same, condB_f, ↓then_normal, pval, rd_S, put_S, chkd, bgot, partA, eq_self, List.replicate_succ, List.replicate_zero, List.set_cons_zero, List.set_cons_succ, List.getElem?_cons_zero, List.getElem?_cons_succ, List.drop_zero, List.take_succ_cons, List.take_nil, Option.getD_some, map_c, map_n, List.length_cons, List.length_nil, Nat.reduceAdd, Nat.reduceSub, Nat.reduceLeDiff, Nat.reduceEqDiff, Nat.zero_add, List.cons_append, List.nil_append, if_true, if_false, Bool.not_true]
      obtain ⟨H, hc, hp, kk, g, hm, hB, hiff⟩ := c_reached (c := c) hu hn (a := a) (by omega)
      obtain ⟨r, hr⟩ := hB.rank
      have hkP : kk.length ≤ P := by
        have := nodup_len_le hB.nodup (ys := plc P) (fun x hx => mem_plc.2 (hB.inP hn (by omega) x hx))
        rw [plc_len] at this
        exact this
      refine CallK.of hc ?_
      simp (maxSteps := 4000000) -implicitDefEqProofs -dsimp (disch := omega) only [↓AW_ops, ↓AW_seq, ↓AW_block, ↓AOps_nil, ↓AOps_pu, on_some, extK_false, ↓then_normal, pval, rd_S, rd_C, put_S, ↓AW_toLoop, List.replicate_succ, List.replicate_zero, List.set_cons_zero, List.set_cons_succ, List.getElem?_cons_zero, List.getElem?_cons_succ, Option.getD_some, Nat.reduceSub, List.cons_append, List.nil_append]
      have hbk := (hiff b).2 hcn
      refine LoopK.by 48 (fun x : List Int × Int × AV × AHeap => AccL 1 e1 H x.2.2.2 x.2.2.1 x.1 ∧ x.2.1 ∈ kk ∧ x.1.length + r x.2.1 ≤ 7 ∧ Nos rs x.1 ∧ ∀ w, 0 ≤ w → w ≤ c → ∃ w', wk rs (x.2.1, w) x.1.reverse = some (b, w') ∧ w' ≤ c) (fun x => [(1, I a), (12, .mp A.length), (13, x.2.2.1), (14, I x.2.1)]) (fun x => x.2.2.2) (fun x => r x.2.1) ([], b, .nilS, H) ⟨AccL.nil (List.prefix_refl _), hbk, by have := (hr b hbk).1; simp; omega, by intro k hk; simp at hk, fun w h0 h1 => ⟨w, rfl, h1⟩⟩ rfl (by simp [Has, rd_s]) rfl ?_
      rintro ⟨out, at', y, H1⟩ ⟨hac, hak, hlr, hno, hwk⟩
      simp only at hac hak hlr hno hwk
      have hm1 := pre_get hac.1 hm
      by_cases hat : at' = a
      · subst hat
        obtain ⟨H2, hrev, hp2, hL⟩ := c_RevAcc hac (by omega)
        obtain ⟨f1, f2⟩ := hfin out hno hwk
        simp (maxSteps := 4000000) -implicitDefEqProofs -dsimp (disch := omega) only [↓AW_ops, ↓AW_seq, ↓AW_cond, ↓AW_exit, ↓AOps_nil, ↓AOps_pu, ↓AOps_call, on_some, condB_f, ↓then_normal, ↓then_exit, ↓inBlock_exit, pval, rd_S, put_S, eq_self, mk, List.foldl_cons, List.foldl_nil, List.replicate_succ, List.replicate_zero, List.set_cons_zero, List.set_cons_succ, List.getElem?_cons_zero, List.getElem?_cons_succ, Option.getD_some, map_c, map_n, bin_neq, if_true, decide_false, forall_const, and_true, false_implies, reduceCtorEq, not_true_eq_false]
        refine CallK.of hrev ?_
        simp (maxSteps := 4000000) -implicitDefEqProofs -dsimp (disch := omega) only [↓AW_ops, ↓AW_seq, ↓AW_ret, ↓AOps_nil, ↓AOps_pu, on_some, extK_false, ↓then_normal, ↓FinR_ret, pval, rd_S, rd_C, put_S, resV, resL, eq_self, mk, List.foldl_cons, List.foldl_nil, List.replicate_succ, List.replicate_zero, List.set_cons_zero, List.set_cons_succ, List.getElem?_cons_zero, List.getElem?_cons_succ, Option.getD_some, forall_const, and_true, false_implies, reduceCtorEq]
        exact ⟨_, _, gc_all, _, rfl, hp.trans hp2, _, hL, by simp; omega, f1, f2⟩
      · obtain ⟨g1, g2, g3⟩ := (hr at' hak).2 hat
        have hpq : ¬ (g at').2 = at' := fun e => by rw [e] at g2; omega
        have hlk := lkG1 hm1 hak
        obtain ⟨v', H2, happ, hacc, _, n, len, rfl, _⟩ := AccL_push2 hac e1_len (by omega) (g at').1 (by simp only [lim]; omega)
        simp only [Go.Eng.e1] at happ
        have hm2 := pre_get hacc.1 hm
        have hlk2 := lkG1 hm2 hak
        simp (maxSteps := 4000000) -implicitDefEqProofs -dsimp (disch := omega) only [↓AW_skip, ↓AW_ops, ↓AW_seq, ↓AW_cond, ↓AW_block, ↓AOps_nil, ↓AOps_pu, ↓AOps_ld, ↓AOps_ha, on_some, extK_false, extK_app, condB_t, ↓then_normal, ↓inBlock_normal, pval, lval_look, hval_blds, hval_app, rd_S, put_S, cells_int, splice, partA, fillA, repl, eq_self, mk, List.foldl_cons, List.foldl_nil, List.replicate_succ, List.replicate_zero, List.set_cons_zero, List.set_cons_succ, List.getElem?_cons_zero, List.getElem?_cons_succ, List.drop_zero, List.drop_succ_cons, List.drop_nil, List.take_zero, List.take_succ_cons, List.take_nil, Option.getD_some, map_c, map_n, List.length_cons, List.length_nil, Nat.reduceAdd, Nat.reduceLeDiff, Nat.zero_add, List.nil_append, List.append_nil, bin_neq, if_true, if_false, Bool.false_eq_true, decide_true, true_and, and_true, not_false_eq_true, hat, hlk, hlk2, happ, List.replicate_zero, repl]
        refine ⟨(out ++ [(g at').1], (g at').2, .sl 1 n 0 len false, H2), ⟨hacc, g1, by simp; omega, fun k hk => ?_, wk_back g3 hpq hwk⟩, by simp [Has, rd_s], rfl, g2⟩
        rcases List.mem_append.1 hk with h | h
        · exact hno k h
        · rw [List.mem_singleton.1 h]; exact g3.1
  obtain ⟨t, H, h1, r, rfl, h2⟩ := key
  exact ⟨r, H, h1, h2⟩
end
end Go.Proofs.Ytkgfcdpckfhknaa

namespace Go.Proofs.Ytkgfcdpckfhknaa
open Go Go.Eng
theorem s106 {x p : Int} {A : AHeap} {a : Nat} (h : ldA 1 false (.ptr a 0) A = some (I p)) : ACalls Try.prog 106 [I x, .ptr a 0] A (B (decide (x = p))) A := by
  refine acalls hmix Try.func106 (by kernel_rfl) t106 2 rfl (by decide) ?_
  dsimp only [m106]
  simp (maxSteps := 4000000) -implicitDefEqProofs -dsimp (disch := omega) only [↓AW_ops, ↓AW_seq, ↓AW_ret, ↓AOps_nil, ↓AOps_pu, ↓AOps_ld, on_some, ↓then_normal, ↓Fin_ret, pval, lval, rd_S, rd_C, put_S, resV, resL, List.replicate_succ, List.replicate_zero, List.set_cons_zero, List.set_cons_succ, List.getElem?_cons_zero, List.getElem?_cons_succ, Option.getD_some, Nat.reduceSub, List.cons_append, List.nil_append, bin_eql, h]
  exact gc_same rfl
set_option maxHeartbeats 1000000 in
theorem s101c {A H : AHeap} {n a : Nat} {full : Bool} {xs : List Int} {p : Int} (h : OL 1 e1 A H n (.sl 1 n 0 xs.length full) xs) (hl : xs.length ≤ 1000) (ha : a ≠ n) (hp : ldA 1 false (.ptr a 0) H = some (I p)) :
    ACalls Try.prog 101 [.sl 1 n 0 xs.length full, .fn 106 [.ptr a 0]] H (.sl 1 n 0 (without xs p).length (full && ((without xs p).length == xs.length))) (H.set n (.cells true ((without xs p ++ List.replicate (xs.length - (without xs p).length) 0).flatMap e1))) := by
  refine acalls hmix Try.func101 (by kernel_rfl) t101 2 rfl (by decide) ?_
  have hpk : ∀ ys : List Int, ldA 1 false (.ptr a 0) (H.set n (.cells true (ys.flatMap e1))) = some (I p) := fun ys => by
    unfold ldA at hp ⊢
    simp only at hp ⊢
    rw [List.getElem?_set_ne (Ne.symm ha)]
    exact hp
  have hln : ∀ k, lenA (.sl 1 n 0 k full) = some (I k) := fun k => rfl
  dsimp only [m101]
  simp (maxSteps := 4000000) -implicitDefEqProofs -dsimp (disch := omega) only [↓AW_ops, ↓AW_seq, ↓AOps_nil, ↓AOps_pu, ↓AOps_call, on_some, ↓then_normal, pval, rd_S, rd_C, put_S, List.replicate_succ, List.replicate_zero, List.set_cons_zero, List.set_cons_succ, List.getElem?_cons_zero, List.getElem?_cons_succ, Option.getD_some, map_c, map_n, Nat.reduceSub, List.cons_append, List.nil_append]
  refine CallK.of (c_IndexFunc h.ls (by omega) 106 [.ptr a 0] (fun x => decide (x = p)) (fun x _ => s106 hp)) ?_
  by_cases hmem : p ∈ xs
  · obtain ⟨i0, hi0, hf, hz0⟩ := fpos_in hmem
    have hfe : fpos (fun x => decide (x = p)) xs = i0 := by
      rw [← hf]; congr 1; funext y; rw [decide_eq_decide]; exact ⟨fun e => e.symm, fun e => e.symm⟩
    rw [hfe]
    have hne : ¬ (i0 : Int) = -1 := by omega
    have hpre : ∀ y ∈ xs.take i0, y ≠ p := fun y hy e => by
      have h2 : xs.findIdx? (fun y => decide (p = y)) = some i0 := by
        unfold fpos at hf
        cases hh : xs.findIdx? (fun y => decide (p = y)) with
        | none => rw [hh] at hf; simp at hf
        | some k => rw [hh] at hf; simp at hf; congr 1; omega
      rw [List.findIdx?_eq_some_iff_getElem] at h2
      obtain ⟨_, _, h3⟩ := h2
      obtain ⟨j, hj, he⟩ := List.mem_take_iff_getElem.1 hy
      have := h3 j (by omega)
      rw [he, e] at this
      simp at this
    have hw0 : without (xs.take i0) p = xs.take i0 := by
      unfold without
      rw [List.filter_eq_self]
      intro y hy
      simp [hpre y hy]
    have hw1 : without (xs.take (i0 + 1)) p = xs.take i0 := by rw [without_take hz0, if_pos rfl, hw0, List.append_nil]
    simp (maxSteps := 4000000) -implicitDefEqProofs -dsimp (disch := omega) only [↓AW_skip, ↓AW_ops, ↓AW_seq, ↓AW_cond, ↓AW_block, ↓AOps_nil, ↓AOps_pu, on_some, extK_same, condB_f, ↓then_normal, pval, rd_S, rd_C, put_S, ↓AW_toLoop, List.replicate_succ, List.replicate_zero, List.set_cons_zero, List.set_cons_succ, List.getElem?_cons_zero, List.getElem?_cons_succ, Option.getD_some, Nat.reduceSub, List.cons_append, List.nil_append, bin_add, bin_eql, w64, decide_false, Int.reduceNeg, hne]
    refine LoopK.by 42 (fun x : Nat × Nat × List Int => (x.2.1 ≤ xs.length ∧ x.1 < x.2.1) ∧ x.2.2.length = xs.length ∧ x.2.2.take x.1 = without (xs.take x.2.1) p ∧ x.2.2.drop x.2.1 = xs.drop x.2.1) (fun x => [(0, .sl 1 n 0 xs.length full), (1, .fn 106 [.ptr a 0]), (5, I x.1), (6, I x.2.1)]) (fun x => H.set n (.cells true (x.2.2.flatMap e1))) (fun x => xs.length - x.2.1) (i0, i0 + 1, xs) ⟨by simp only; omega, rfl, hw1.symm, rfl⟩ rfl (by simp [Has, rd_s]) (by simp only; rw [set_same h.ob]) ?_
    rintro ⟨i, j, ys⟩ ⟨⟨hj, hij⟩, hyl, hyt, hyd⟩
    simp only at hj hij hyl hyt hyd
    have ho := OL_setAll h ys hyl
    have hwl : (without (xs.take j) p).length = i := by rw [← hyt, List.length_take]; omega
    by_cases hlt : j < xs.length
    · have hlt' : (j : Int) < xs.length := by omega
      obtain ⟨z, hz⟩ : ∃ z, xs[j]? = some z := ⟨_, List.getElem?_eq_getElem hlt⟩
      have hzy : ys[j]? = some z := by
        have : (ys.drop j)[0]? = (xs.drop j)[0]? := by rw [hyd]
        rw [List.getElem?_drop, List.getElem?_drop, Nat.add_zero] at this
        rw [this]; exact hz
      have hjy : j < ys.length := by omega
      have hiy : i < ys.length := by omega
      simp (maxSteps := 4000000) -implicitDefEqProofs -dsimp (disch := omega) only [↓AW_skip, ↓AW_ops, ↓AW_seq, ↓AW_cond, ↓AW_block, ↓AOps_nil, ↓AOps_pu, ↓AOps_ld, ↓AOps_callv, on_some, CallF_fn, condB_t, ↓then_normal, pval, lval, rd_S, put_S, partA, eq_self, mk, List.foldl_cons, List.foldl_nil, List.replicate_succ, List.replicate_zero, List.set_cons_zero, List.set_cons_succ, List.getElem?_cons_zero, List.getElem?_cons_succ, List.drop_zero, List.take_succ_cons, List.take_nil, Option.getD_some, map_c, map_n, List.length_cons, List.length_nil, Nat.reduceLeDiff, Nat.zero_add, List.cons_append, List.nil_append, bin_lss, if_true, if_false, Bool.false_eq_true, decide_true, Go.Eng.e1, hlt', hln, ho.ls.idx hjy, ho.ls.ld0 hzy 1 false (by decide)]
      refine CallK.of (s106 (hpk ys)) ?_
      by_cases hzp : z = p
      · simp (maxSteps := 4000000) -implicitDefEqProofs -dsimp (disch := omega) only [↓AW_skip, ↓AW_ops, ↓AW_cond, ↓AOps_nil, ↓AOps_pu, on_some, extK_same, condB_f, ↓then_normal, ↓inBlock_normal, pval, rd_S, rd_C, put_S, eq_self, mk, List.foldl_cons, List.foldl_nil, List.replicate_succ, List.replicate_zero, List.set_cons_zero, List.set_cons_succ, List.getElem?_cons_zero, List.getElem?_cons_succ, Option.getD_some, List.length_cons, List.length_nil, Nat.reduceAdd, Nat.zero_add, bin_add, w64, Bool.not_true, decide_true, true_and, hzp]
        refine ⟨(i, j + 1, ys), ⟨⟨hlt, by simp only; omega⟩, hyl, ?_, ?_⟩, by simp [Has, rd_s], rfl, by simp only; omega⟩
        · simp only; rw [without_take hz, if_pos hzp, List.append_nil]; exact hyt
        · simp only
          rw [← List.drop_drop, ← List.drop_drop, hyd]
      · have hst := ho.st hiy (I z) z rfl
        rw [List.set_set] at hst
        simp (maxSteps := 4000000) -implicitDefEqProofs -dsimp (disch := omega) only [↓AW_ops, ↓AW_seq, ↓AW_cond, ↓AOps_nil, ↓AOps_pu, ↓AOps_ha, on_some, extK_false, extK_same, condB_t, ↓then_normal, ↓inBlock_normal, pval, hval_st, rd_S, rd_C, put_S, putS_none, eq_self, mk, List.foldl_cons, List.foldl_nil, List.replicate_succ, List.replicate_zero, List.set_cons_zero, List.set_cons_succ, List.getElem?_cons_zero, List.getElem?_cons_succ, Option.getD_some, Option.map_some, List.length_cons, List.length_nil, Nat.reduceAdd, Nat.zero_add, bin_add, w64, Bool.not_false, decide_false, true_and, hzp, ho.ls.idx hiy, hst]
        refine ⟨(i + 1, j + 1, ys.set i z), ⟨⟨hlt, by simp only; omega⟩, by simp [hyl], ?_, ?_⟩, by simp [Has, rd_s], rfl, by simp only; omega⟩
        · simp only
          rw [without_take hz, if_neg hzp, ← hyt, List.take_add_one, List.getElem?_set_self hiy, Option.toList_some, List.take_set_of_le (Nat.le_refl _)]
        · simp only
          rw [List.drop_set_of_lt (by omega), ← List.drop_drop, ← List.drop_drop, hyd]
    · have hlt' : ¬ ((j : Int) < xs.length) := by omega
      have hjj : j = xs.length := by omega
      rw [show xs.take j = xs from List.take_of_length_le (by omega)] at hyt hwl
      have hs1 : slcA 1 (.sl 1 n 0 xs.length full) (some (I i)) none none = some (.sl 1 n (i * 1) (xs.length - i) full) := by
        have : i ≤ xs.length := by omega
        simp [slcA, bnd, this]
      have hs2 : slcA 1 (.sl 1 n 0 xs.length full) none (some (I i)) none = some (.sl 1 n 0 i (full && (i == xs.length))) := by
        have : i ≤ xs.length := by omega
        simp [slcA, bnd, this]
      have hc := OL_clr ho i (by omega) full
      rw [hyl, List.set_set, hyt] at hc
      simp (maxSteps := 4000000) -implicitDefEqProofs -dsimp (disch := omega) only [↓AW_ops, ↓AW_seq, ↓AW_cond, ↓AW_exit, ↓AW_ret, ↓AOps_nil, ↓AOps_pu, ↓AOps_ha, on_some, extK_false, condB_f, ↓then_normal, ↓then_exit, ↓inBlock_exit, ↓Fin_ret, pval, rd_S, put_S, putS_none, resV, resL, eq_self, mk, List.foldl_cons, List.foldl_nil, List.replicate_succ, List.replicate_zero, List.set_cons_zero, List.set_cons_succ, List.getElem?_cons_zero, List.getElem?_cons_succ, Option.getD_some, Option.map_some, Option.map_none, bin_lss, if_true, decide_false, hlt', hln, hs1, hval_clr, hc, hs2]
      exact gc_same_all (by rw [hwl]) (by rw [hwl])
  · have hfe : fpos (fun x => decide (x = p)) xs = -1 := fpos_none (fun y hy => by
      rw [decide_eq_false_iff_not]; rintro rfl; exact hmem hy)
    rw [hfe]
    have hw : without xs p = xs := by
      unfold without
      rw [List.filter_eq_self]
      intro y hy
      have : y ≠ p := by rintro rfl; exact hmem hy
      simp [this]
    simp (maxSteps := 4000000) -implicitDefEqProofs -dsimp (disch := omega) only [↓AW_ops, ↓AW_seq, ↓AW_cond, ↓AW_ret, ↓AOps_nil, ↓AOps_pu, on_some, extK_same, condB_t, ↓then_normal, ↓then_ret, ↓Fin_ret, pval, rd_S, rd_C, put_S, resV, resL, eq_self, List.replicate_succ, List.replicate_zero, List.set_cons_zero, List.set_cons_succ, List.getElem?_cons_zero, List.getElem?_cons_succ, Option.getD_some, Nat.reduceSub, List.cons_append, List.nil_append, bin_eql, decide_true, Int.reduceNeg]
    refine gc_same_all (by rw [hw]; simp) ?_
    rw [hw, Nat.sub_self, List.replicate_zero, List.append_nil, set_same h.ob]
/-- A number is added behind a list that may be longer below. -/
theorem app_OL {A H : AHeap} {n : Nat} {qs : List Int} {post : List AV} (hp : A <+: H) (hn : A.length ≤ n) (h1 : H[n]? = some (.cells true (qs.flatMap e1 ++ post))) (hl : qs.length + 1 ≤ lim) (q : Int) :
    ∃ n' H2, appA 1 (H ++ [.cells true [I q]]) (.sl 1 n 0 qs.length false) (.sl 1 H.length 0 1 true) = some (.sl 1 n' 0 (qs.length + 1) false, H2) ∧ OL 1 e1 A H2 n' (.sl 1 n' 0 (qs.length + 1) false) (qs ++ [q]) := by
  have hln := (List.getElem?_eq_some_iff.1 h1).1
  have hfl := flatMap_length e1_len qs
  have hc := slCells_new (es := 1) H [I q] rfl
  have hg : (H ++ [AObj.cells true [I q]])[n]? = some (.cells true (qs.flatMap e1 ++ post)) := by rw [List.getElem?_append_left hln]; exact h1
  have hnew : ((qs.flatMap e1 ++ post).drop 0).take (qs.length * 1) ++ [I q] = (qs ++ [q]).flatMap e1 := by
    rw [List.drop_zero, ← hfl, List.take_left, List.flatMap_append]
    rfl
  have hlen : (qs ++ [q]).length = qs.length + 1 := by simp
  unfold appA
  rw [hc]
  simp only [Nat.one_ne_zero, if_false, hl, and_self, if_true, hg]
  rw [if_pos (by simp only [List.length_append]; omega), hnew]
  simp only [Bool.false_eq_true, if_false]
  refine ⟨_, _, rfl, e1_len, (pre_set (hp.trans (pre_app _ _)) hn _).trans (pre_app _ _), ?_, by simp, ⟨false, by rw [hlen]⟩⟩
  simp only [List.length_append]
  have := hp.length_le
  omega
theorem sorted_ext : ∀ {xs ys : List Int}, xs.Pairwise (· < ·) → ys.Pairwise (· < ·) → (∀ k, k ∈ xs ↔ k ∈ ys) → xs = ys
  | [], [], _, _, _ => rfl
  | [], y :: ys, _, _, h => absurd ((h y).2 (by simp)) (by simp)
  | x :: xs, [], _, _, h => absurd ((h x).1 (by simp)) (by simp)
  | x :: xs, y :: ys, h1, h2, h => by
    rw [List.pairwise_cons] at h1 h2
    have hxy : x = y := by
      rcases List.mem_cons.1 ((h x).1 (by simp)) with e | e
      · exact e
      · rcases List.mem_cons.1 ((h y).2 (by simp)) with f | f
        · exact f.symm
        · have := h1.1 y f
          have := h2.1 x e
          omega
    subst hxy
    rw [sorted_ext h1.2 h2.2 (fun k => ?_)]
    constructor
    · intro hk
      rcases List.mem_cons.1 ((h k).1 (List.mem_cons_of_mem _ hk)) with e | e
      · have := h1.1 k hk; omega
      · exact e
    · intro hk
      rcases List.mem_cons.1 ((h k).2 (List.mem_cons_of_mem _ hk)) with e | e
      · have := h2.1 k hk; omega
      · exact e
/-- A tree's roads, one for another. -/
def mkT (ks : List Int) (o i : Int) (n : Nat) : List Int := (plc n).filter (fun j => decide (j = i ∨ (¬ j = o ∧ j ∈ ks)))
theorem mem_mk {ks : List Int} {o i : Int} {n : Nat} {j : Int} : j ∈ mkT ks o i n ↔ (0 ≤ j ∧ j < n) ∧ (j = i ∨ (¬ j = o ∧ j ∈ ks)) := by
  unfold mkT
  rw [List.mem_filter, mem_plc, decide_eq_true_eq]
theorem mem_wo {l : List Int} {p j : Int} : j ∈ without l p ↔ j ∈ l ∧ ¬ j = p := by
  unfold Go.Proofs.Ytkgfcdpckfhknaa.without
  rw [List.mem_filter]
  simp
theorem mk_srt {ks : List Int} {o i : Int} {n : Nat} (h : okS n ks) (hi : 0 ≤ i ∧ i ≤ (n : Int) - 1) (hk : i ∉ ks) : mkT ks o i n = srt (without ks o ++ [i]) := by
  have hnd : (without ks o ++ [i]).Nodup := by
    rw [List.nodup_append]
    refine ⟨(okS_nodup h).sublist List.filter_sublist, by simp, fun x hx y hy e => ?_⟩
    rw [List.mem_singleton] at hy
    exact hk (by rw [← hy, ← e]; exact (mem_wo.1 hx).1)
  have h1 : (srt (without ks o ++ [i])).Pairwise (· < ·) := by
    have h1 := srt_pw (without ks o ++ [i])
    have h2 := (srt_perm (without ks o ++ [i])).nodup_iff.2 hnd
    rw [List.nodup_iff_pairwise_ne] at h2
    exact (h1.and h2).imp (fun hh => by have := hh.1; have := hh.2; omega)
  refine sorted_ext ((plc_sorted n).sublist List.filter_sublist) h1 (fun j => ?_)
  rw [mem_mk, (srt_perm _).mem_iff, List.mem_append, mem_wo, List.mem_singleton]
  constructor
  · rintro ⟨_, h2 | h2⟩
    · exact .inr h2
    · exact .inl ⟨h2.2, h2.1⟩
  · rintro (h2 | h2)
    · have := h.1 j h2.1
      exact ⟨by omega, .inr ⟨h2.2, h2.1⟩⟩
    · exact ⟨by omega, .inl h2⟩
theorem cst_wo {w : Int → Int} {o : Int} : ∀ {ks : List Int}, ks.Nodup → o ∈ ks → cst w ks = cst w (without ks o) + w o
  | [], _, h => by simp at h
  | k :: ks, hn, h => by
    rw [List.nodup_cons] at hn
    by_cases hk : k = o
    · subst hk
      have : without (k :: ks) k = ks := by
        unfold Go.Proofs.Ytkgfcdpckfhknaa.without
        rw [List.filter_cons]
        simp only [decide_true, Bool.not_true, Bool.false_eq_true, if_false]
        rw [List.filter_eq_self]
        intro y hy
        have : ¬ y = k := fun e => hn.1 (by rw [← e]; exact hy)
        simp [this]
      rw [this, cst_cons]
      omega
    · have hok : o ∈ ks := by
        rcases List.mem_cons.1 h with e | e
        · exact absurd e.symm hk
        · exact e
      have : without (k :: ks) o = k :: without ks o := by
        unfold Go.Proofs.Ytkgfcdpckfhknaa.without
        rw [List.filter_cons]
        simp [hk]
      rw [this, cst_cons, cst_cons, cst_wo hn.2 hok]
      omega
theorem cst_mk {w : Int → Int} {ks : List Int} {o i : Int} {n : Nat} (h : okS n ks) (hi : 0 ≤ i ∧ i ≤ (n : Int) - 1) (hk : i ∉ ks) (ho : o ∈ ks) : cst w ks - cst w (mkT ks o i n) = w o - w i := by
  rw [mk_srt h hi hk, cst_perm (srt_perm _), cst_wo (okS_nodup h) ho]
  have : cst w (without ks o ++ [i]) = cst w (without ks o) + w i := by
    unfold cst
    rw [List.map_append, List.sum_append]
    simp
  omega
end Go.Proofs.Ytkgfcdpckfhknaa

namespace Go.Proofs.Ytkgfcdpckfhknaa
open Go Go.Eng
/-- One road of a tree may be another. -/
def swp (P : Nat) (rs : List Rd) (ks : List Int) (o i : Int) : Prop := o ∈ ks ∧ i ∉ ks ∧ Tree P (rdx rs) (mkT ks o i rs.length)
noncomputable instance swpDec (P : Nat) (rs : List Rd) (ks : List Int) (o i : Int) : Decidable (swp P rs ks o i) := Classical.propDecidable _
section
variable {P : Nat} {rs : List Rd} {ks : List Int} {u v : AV} {A : AHeap}
set_option maxRecDepth 20000 in
set_option maxHeartbeats 16000000 in
theorem s86 (hu : L3 A u rs) (hx : L1 A v ks) (hn : Net P rs) (hok : okS rs.length ks) (hT : Tree P (rdx rs) ks) (o i : Int) (hi : 0 ≤ i ∧ i ≤ (rs.length : Int) - 1) : ∃ r H, ACalls Try.prog 86 [.agg [I P, u], v, I o, I i] A (.tuple [r, B (decide (swp P rs ks o i))]) H ∧ A <+: H := by
  have key : ∃ t H, ACalls Try.prog 86 [.agg [I P, u], v, I o, I i] A t H ∧ ∃ r, t = .tuple [r, B (decide (swp P rs ks o i))] ∧ A <+: H := by
    refine acallsR hmix Try.func86 (by kernel_rfl) t86 _ 4 rfl (by decide) ?_
    have hp7 := hn.p7
    have hT1 := hT.1
    have hpA := pre_app A [AObj.cells true [I o]]
    have hld : ldA 1 false (.ptr A.length 0) (A ++ [AObj.cells true [I o]]) = some (I o) := by simp [ldA, partA]
    have hx1 := hx.mono hpA
    have hu1 := hu.mono hpA
    dsimp only [m86]
    simp (maxSteps := 4000000) -implicitDefEqProofs -dsimp (disch := omega) only [↓AW_ops, ↓AW_seq, ↓AOps_nil, ↓AOps_pu, ↓AOps_ld, ↓AOps_ha, ↓AOps_call, on_some, extK_app, ↓then_normal, pval, lval_ld, hval_newv, rd_S, rd_C, put_S, cells_agg, cells_int, List.replicate_succ, List.replicate_zero, List.set_cons_zero, List.set_cons_succ, List.getElem?_cons_zero, List.getElem?_cons_succ, Option.getD_some, map_c, map_n, Nat.reduceSub, List.cons_append, List.nil_append, hld]
    refine CallK.of (c_Contains hx1 (by omega) o) ?_
    by_cases ho : o ∈ ks
    case neg =>
      rw [decide_eq_false ho, decide_eq_false (fun h : swp P rs ks o i => ho h.1)]
      simp (maxSteps := 4000000) -implicitDefEqProofs -dsimp (disch := omega) only [↓AW_ops, ↓AW_seq, ↓AW_cond, ↓AW_ret, ↓AOps_nil, ↓AOps_pu, ↓AOps_guard, on_some, extK_same, guardB_tf, skipS_some, condB_t, ↓then_normal, ↓then_ret, ↓FinR_ret, pval, rd_S, rd_C, put_S, resV, resL, eq_self, List.replicate_succ, List.replicate_zero, List.set_cons_zero, List.set_cons_succ, List.getElem?_cons_zero, List.getElem?_cons_succ, Option.getD_some, Nat.reduceSub, List.cons_append, List.nil_append, if_true, Bool.not_false]
      exact ⟨_, _, gc_all, _, rfl, hpA⟩
    rw [decide_eq_true ho]
    simp (maxSteps := 4000000) -implicitDefEqProofs -dsimp (disch := omega) only [↓AOps_pu, ↓AOps_call, ↓AOps_guard, on_some, extK_same, guardB_ff, pval, rd_S, put_S, List.replicate_succ, List.replicate_zero, List.set_cons_zero, List.set_cons_succ, List.getElem?_cons_zero, List.getElem?_cons_succ, Option.getD_some, map_c, map_n, Nat.reduceSub, List.cons_append, List.nil_append, Bool.not_true]
    refine CallK.of (c_Contains hx1 (by omega) i) ?_
    by_cases hk : i ∈ ks
    · rw [decide_eq_true hk, decide_eq_false (fun h : swp P rs ks o i => h.2.1 hk)]
      simp (maxSteps := 4000000) -implicitDefEqProofs -dsimp (disch := omega) only [↓AW_ops, ↓AW_seq, ↓AW_cond, ↓AW_ret, ↓AOps_nil, ↓AOps_pu, on_some, extK_same, condB_t, ↓then_normal, ↓then_ret, ↓FinR_ret, pval, rd_S, rd_C, put_S, resV, resL, List.replicate_succ, List.replicate_zero, List.set_cons_zero, List.set_cons_succ, List.getElem?_cons_zero, List.getElem?_cons_succ, Option.getD_some, Nat.reduceSub, List.cons_append, List.nil_append, if_false, Bool.false_eq_true]
      exact ⟨_, _, gc_all, _, rfl, hpA⟩
    rw [decide_eq_false hk]
    simp (maxSteps := 4000000) -implicitDefEqProofs -dsimp (disch := omega) only [↓AW_skip, ↓AW_ops, ↓AW_seq, ↓AW_cond, ↓AOps_nil, ↓AOps_pu, ↓AOps_call, on_some, extK_same, condB_f, ↓then_normal, pval, rd_S, rd_C, put_S, List.replicate_succ, List.replicate_zero, List.set_cons_zero, List.set_cons_succ, List.getElem?_cons_zero, List.getElem?_cons_succ, Option.getD_some, map_c, map_n, Nat.reduceSub, List.cons_append, List.nil_append, if_false, Bool.false_eq_true]
    have h0 : 0 < ks.length := List.length_pos_of_mem ho
    refine CallK.of (s102 hx1 h0 (by omega)) ?_
    have hpB := pre_app (A ++ [AObj.cells true [I o]]) [AObj.cells true [], AObj.cells true (ks.flatMap e1)]
    have hOL : OL 1 e1 A (A ++ [AObj.cells true [I o]] ++ [AObj.cells true [], AObj.cells true (ks.flatMap e1)]) ((A ++ [AObj.cells true [I o]]).length + 1) (.sl 1 ((A ++ [AObj.cells true [I o]]).length + 1) 0 ks.length false) ks := by
      have h0 := OL.new_mk e1_len (A ++ [AObj.cells true [I o]] ++ [AObj.cells true []]) ks false
      have q1 : A ++ [AObj.cells true [I o]] ++ [AObj.cells true []] ++ [AObj.cells true (ks.flatMap e1)] = A ++ [AObj.cells true [I o]] ++ [AObj.cells true [], AObj.cells true (ks.flatMap e1)] := by simp
      have q2 : (A ++ [AObj.cells true [I o]] ++ [AObj.cells true []]).length = (A ++ [AObj.cells true [I o]]).length + 1 := by simp
      rw [q1, q2] at h0
      exact ⟨h0.he, hpA.trans hpB, by simp; omega, h0.ob, h0.v⟩
    have hld2 : ldA 1 false (.ptr A.length 0) (A ++ [AObj.cells true [I o]] ++ [AObj.cells true [], AObj.cells true (ks.flatMap e1)]) = some (I o) := ld_mono hpB hld
    have h101 := s101c (p := o) hOL (by omega) (a := A.length) (by simp; omega) hld2
    simp (maxSteps := 4000000) -implicitDefEqProofs -dsimp (disch := omega) only [↓AOps_pu, ↓AOps_call, on_some, extK_app, pval, rd_S, put_S, List.replicate_succ, List.replicate_zero, List.set_cons_zero, List.set_cons_succ, List.getElem?_cons_zero, List.getElem?_cons_succ, Option.getD_some, map_c, map_n, Nat.reduceSub, List.cons_append, List.nil_append]
    refine CallK.of h101 ?_
    have hw := without_le ks o
    have hpC : A <+: (A ++ [AObj.cells true [I o]] ++ [AObj.cells true [], AObj.cells true (ks.flatMap e1)]).set ((A ++ [AObj.cells true [I o]]).length + 1) (.cells true ((without ks o ++ List.replicate (ks.length - (without ks o).length) 0).flatMap e1)) := hOL.old _
    have hob : ((A ++ [AObj.cells true [I o]] ++ [AObj.cells true [], AObj.cells true (ks.flatMap e1)]).set ((A ++ [AObj.cells true [I o]]).length + 1) (.cells true ((without ks o ++ List.replicate (ks.length - (without ks o).length) 0).flatMap e1)))[(A ++ [AObj.cells true [I o]]).length + 1]? = some (.cells true ((without ks o).flatMap e1 ++ (List.replicate (ks.length - (without ks o).length) (0 : Int)).flatMap e1)) := by
      rw [List.getElem?_set_self (by simp), List.flatMap_append]
    have hnew : A.length ≤ (A ++ [AObj.cells true [I o]]).length + 1 := by simp; omega
    generalize (A ++ [AObj.cells true [I o]] ++ [AObj.cells true [], AObj.cells true (ks.flatMap e1)]).set ((A ++ [AObj.cells true [I o]]).length + 1) (.cells true ((without ks o ++ List.replicate (ks.length - (without ks o).length) 0).flatMap e1)) = H2 at *
    generalize (A ++ [AObj.cells true [I o]]).length + 1 = n at *
    obtain ⟨n', H3, happ, hO3⟩ := app_OL hpC hnew hob (by simp only [lim]; omega) i
    simp (maxSteps := 4000000) -implicitDefEqProofs -dsimp (disch := omega) only [↓AW_ops, ↓AW_seq, ↓AOps_nil, ↓AOps_pu, ↓AOps_ha, ↓AOps_call, on_some, extK_false, extK_app, ↓then_normal, pval, hval_blds, hval_app, rd_S, put_S, cells_int, splice, fillA, repl, eq_self, List.replicate_succ, List.replicate_zero, List.set_cons_zero, List.set_cons_succ, List.getElem?_cons_zero, List.getElem?_cons_succ, List.drop_succ_cons, List.drop_nil, List.take_zero, Option.getD_some, map_c, map_n, List.length_cons, List.length_nil, Nat.reduceSub, Nat.reduceLeDiff, Nat.zero_add, List.cons_append, List.nil_append, List.append_nil, if_true, Bool.false_and, and_true, Bool.false_and, happ, List.replicate_zero, repl]
    have hlen : (without ks o ++ [i]).length = (without ks o).length + 1 := by simp
    refine CallK.of (c_Sort hO3 (by rw [hlen]; omega)) ?_
    have hO4 := OL_setAll hO3 (srt (without ks o ++ [i])) (srt_len _)
    rw [← mk_srt hok hi hk] at hO4 ⊢
    simp (maxSteps := 4000000) -implicitDefEqProofs -dsimp (disch := omega) only [↓AW_ops, ↓AW_seq, ↓AOps_nil, ↓AOps_pu, ↓AOps_call, on_some, extK_false, ↓then_normal, pval, rd_S, put_S, chkd, bgot, partA, eq_self, List.replicate_succ, List.replicate_zero, List.set_cons_zero, List.set_cons_succ, List.getElem?_cons_zero, List.getElem?_cons_succ, List.drop_zero, List.take_succ_cons, List.take_nil, Option.getD_some, map_c, map_n, List.length_cons, List.length_nil, Nat.reduceAdd, Nat.reduceSub, Nat.reduceLeDiff, Nat.reduceEqDiff, Nat.zero_add, List.cons_append, List.nil_append, if_true, if_false, Bool.false_and]
    have hmn : Nos rs (mkT ks o i rs.length) := fun j hj => by have := (mem_mk.1 hj).1; omega
    have hml : (mkT ks o i rs.length).length ≤ 1000000 := by rw [mk_srt hok hi hk, srt_len, hlen]; omega
    refine CallK.of (s60 (hu.mono hO4.pre) hO4.ls hn hmn hml) ?_
    have hsw : decide (swp P rs ks o i) = decide (Tree P (rdx rs) (mkT ks o i rs.length)) := decide_eq_decide.2 ⟨fun h => h.2.2, fun h => ⟨ho, hk, h⟩⟩
    rw [hsw]
    simp (maxSteps := 4000000) -implicitDefEqProofs -dsimp (disch := omega) only [↓AW_ret, ↓AOps_nil, ↓AOps_pu, on_some, extK_same, ↓then_normal, ↓FinR_ret, pval, rd_S, put_S, resV, resL, List.replicate_succ, List.replicate_zero, List.set_cons_zero, List.set_cons_succ, List.getElem?_cons_zero, List.getElem?_cons_succ, Option.getD_some, Nat.reduceSub, List.cons_append, List.nil_append, Bool.false_and]
    exact ⟨_, _, gc_all, _, rfl, hO4.pre⟩
  obtain ⟨t, H, h1, r, rfl, h2⟩ := key
  exact ⟨r, H, h1, h2⟩
end
end Go.Proofs.Ytkgfcdpckfhknaa

namespace Go.Proofs.Ytkgfcdpckfhknaa
open Go Go.Eng
section
variable {Q : Int} {rs : List Rd} {ks : List Int} {u v : AV} {A : AHeap}
end
end Go.Proofs.Ytkgfcdpckfhknaa

namespace Go.Proofs.Ytkgfcdpckfhknaa
open Go Go.Eng
section
variable {P : Nat} {rs : List Rd} {ks : List Int} {u v : AV} {A : AHeap}
theorem best_le (hn : Net P rs) {T : List Int} (hk : Nos rs T) (hT : Tree P (rdx rs) T) : best rs ≤ cst (wct rs) T := by
  have hO := ordL_ord rs
  have hP := hO.nos.inP hn
  have hTL : ∀ k ∈ T, k ∈ ordL rs := fun k h => hO.mem.2 (hk k h)
  have hG : Tree P (rdx rs) (grw (rdx rs) [] (ordL rs)) := (grw_tree hP (by have := hT.1; omega)).2 (tree_all hTL hT)
  unfold best
  exact grw_opt (M := 99) hP hO.s (hO.wb hn) hTL hT.ind (by have := hT.1; have := hG.1; omega)
/-- No road may be a cheaper one. -/
def noB (P : Nat) (rs : List Rd) (ks : List Int) : Prop := ∀ o i, o ∈ ks → (0 ≤ i ∧ i ≤ (rs.length : Int) - 1) → swp P rs ks o i → wct rs o ≤ wct rs i
theorem noB_iff (hn : Net P rs) (hok : okS rs.length ks) (hT : Tree P (rdx rs) ks) : noB P rs ks ↔ cst (wct rs) ks = best rs := by
  have hO := ordL_ord rs
  have hP := hO.nos.inP hn
  have hkn := okS_nos hok
  have hle := best_le hn hkn hT
  constructor
  · intro h
    have hTL : ∀ k ∈ ks, k ∈ ordL rs := fun k h => hO.mem.2 (hkn k h)
    have h2 : cst (wct rs) ks ≤ best rs := by
      unfold best
      refine local_opt (M := 99) hP hO.s (hO.wb hn) hTL hT (fun X Y g f hp hf hTf => ?_)
      have hg : g ∈ ks := hp.symm.subset (by simp)
      have hfv := hO.mem.1 hf
      have hnd := (hp.nodup_iff).1 (okS_nodup hok)
      rw [List.nodup_cons] at hnd
      by_cases hfk : f ∈ ks
      · rcases List.mem_cons.1 (hp.subset hfk) with e | e
        · rw [e]; exact Int.le_refl _
        · have hPf := hP f hf
          have hI : Ind P (rdx rs f :: (X ++ Y).map (rdx rs)) := hTf.ind
          have hXY : ∀ k ∈ X ++ Y, k ∈ ordL rs := fun k hk => hTL k (hp.symm.subset (List.mem_cons_of_mem _ hk))
          have hIs : Ind P ((X ++ Y).map (rdx rs)) := ind_sub (T := f :: (X ++ Y)) (List.sublist_cons_self _ _) (fun k hk => by
            rcases List.mem_cons.1 hk with e2 | e2
            · rw [e2]; exact hPf
            · exact hP k (hXY k e2)) hI
          exact absurd (Cn.one (List.mem_map_of_mem e)) ((Ind.cons hPf hIs).1 hI)
      · refine h g f hg hfv ⟨hg, hfk, ?_⟩
        have hwp : (without ks g).Perm (X ++ Y) := by
          have h1 : (without ks g).Perm (without (g :: (X ++ Y)) g) := hp.filter _
          have h2 : without (g :: (X ++ Y)) g = X ++ Y := by
            unfold Go.Proofs.Ytkgfcdpckfhknaa.without
            rw [List.filter_cons]
            simp only [decide_true, Bool.not_true, Bool.false_eq_true, if_false]
            rw [List.filter_eq_self]
            intro y hy
            have : ¬ y = g := fun e => hnd.1 (by rw [← e]; exact hy)
            simp [this]
          rw [h2] at h1
          exact h1
        rw [mk_srt hok hfv hfk]
        refine hTf.perm ((srt_perm _).trans ?_)
        exact (hwp.append_right [f]).trans List.perm_append_comm
    omega
  · intro h o i ho hi hs
    refine Classical.byContradiction (fun hn2 => ?_)
    have h1 := cst_mk (w := wct rs) hok hi hs.2.1 hs.1
    have h2 := best_le hn (T := mkT ks o i rs.length) (fun j hj => by have := (mem_mk.1 hj).1; omega) hs.2.2
    omega
/-- What is answered about a cheaper tree. -/
def BA (Q : Int) (rs : List Rd) (ks : List Int) (o i : Int) (is : Bool) : Prop :=
  (is = true ∧ tE Q rs ks = 0 ∧ (0 ≤ o ∧ o ≤ (rs.length : Int) - 1) ∧ (0 ≤ i ∧ i ≤ (rs.length : Int) - 1) ∧ swp Q.toNat rs ks o i ∧ wct rs i < wct rs o) ∨
  (is = false ∧ o = 0 ∧ i = 0 ∧ (tE Q rs ks = 0 → noB Q.toNat rs ks))
end
section
variable {Q : Int} {rs : List Rd} {ks : List Int} {u v : AV} {A : AHeap}
set_option maxRecDepth 20000 in
set_option maxHeartbeats 16000000 in
theorem s41 (hu : L3 A u rs) (hP : W Q) (hx : L1 A v ks) (hl : ks.length ≤ 1000000) : ∃ o i is, ACalls Try.prog 41 [.agg [I Q, u], v] A (.tuple [I o, I i, B is, I (tE Q rs ks)]) A ∧ BA Q rs ks o i is := by
  have key : ∃ r H', ACalls Try.prog 41 [.agg [I Q, u], v] A r H' ∧ ∃ o i is, r = .tuple [I o, I i, B is, I (tE Q rs ks)] ∧ H' = A ∧ BA Q rs ks o i is := by
    refine acallsR hmix Try.func41 (by kernel_rfl) t41 _ 2 rfl (by decide) ?_
    dsimp only [m41]
    simp (maxSteps := 4000000) -implicitDefEqProofs -dsimp (disch := omega) only [↓AW_ops, ↓AW_seq, ↓AOps_nil, ↓AOps_pu, ↓AOps_call, on_some, ↓then_normal, pval, rd_S, rd_C, put_S, chkd, bgot, cells_agg, partA, eq_self, List.replicate_succ, List.replicate_zero, List.set_cons_zero, List.set_cons_succ, List.getElem?_cons_zero, List.getElem?_cons_succ, List.drop_zero, List.take_succ_cons, List.take_nil, Option.getD_some, map_c, map_n, List.length_cons, List.length_nil, Nat.reduceAdd, Nat.reduceSub, Nat.reduceLeDiff, Nat.reduceEqDiff, Nat.zero_add, List.cons_append, List.nil_append, if_true, if_false]
    refine CallK.of (s78 hu hx hP hl) ?_
    by_cases h0 : tE Q rs ks = 0
    case neg =>
      simp (maxSteps := 4000000) -implicitDefEqProofs -dsimp (disch := omega) only [↓AW_ops, ↓AW_seq, ↓AW_cond, ↓AW_ret, ↓AOps_nil, ↓AOps_pu, on_some, extK_same, condB_t, ↓then_normal, ↓then_ret, ↓FinR_ret, pval, rd_S, rd_C, put_S, resV, resL, List.replicate_succ, List.replicate_zero, List.set_cons_zero, List.set_cons_succ, List.getElem?_cons_zero, List.getElem?_cons_succ, Option.getD_some, Nat.reduceSub, List.cons_append, List.nil_append, bin_neq, decide_true, not_false_eq_true, h0]
      exact ⟨_, _, gc_same rfl, 0, 0, false, rfl, rfl, .inr ⟨rfl, rfl, rfl, fun h => absurd h h0⟩⟩
    have hn := tE_net h0
    obtain ⟨P, rfl⟩ := hn.nat
    obtain ⟨_, hok, hTr⟩ := tE_0.1 h0
    have hkn := okS_nos hok
    have hl14 := hn.l
    rw [h0]
    simp (maxSteps := 4000000) -implicitDefEqProofs -dsimp (disch := omega) only [↓AW_skip, ↓AW_ops, ↓AW_seq, ↓AW_cond, ↓AW_block, ↓AOps_nil, ↓AOps_pu, on_some, extK_same, condB_f, ↓then_normal, pval, rd_S, rd_C, put_S, ↓AW_toLoop, eq_self, List.replicate_succ, List.replicate_zero, List.set_cons_zero, List.set_cons_succ, List.getElem?_cons_zero, List.getElem?_cons_succ, Option.getD_some, Nat.reduceSub, List.cons_append, List.nil_append, bin_neq, decide_false, not_true_eq_false, hx.len]
    refine LoopK.by 59 (fun x : Nat × AHeap => x.1 ≤ ks.length ∧ A <+: x.2 ∧ ∀ o i, o ∈ ks.take x.1 → (0 ≤ i ∧ i ≤ (rs.length : Int) - 1) → swp P rs ks o i → wct rs o ≤ wct rs i) (fun x => [(1, v), (2, .agg [I P, u]), (21, v), (22, I ks.length), (23, I x.1)]) (fun x => x.2) (fun x => ks.length - x.1) (0, A) ⟨by simp only; omega, List.prefix_refl _, fun o i ho => by simp at ho⟩ rfl (by simp [Has, rd_s]) rfl ?_
    rintro ⟨t, H⟩ ⟨ht, hp, hno⟩
    simp only at ht hp hno
    have hxH := hx.mono hp
    have huH := hu.mono hp
    by_cases hlt : t < ks.length
    · obtain ⟨o, hz⟩ : ∃ z, ks[t]? = some z := ⟨_, List.getElem?_eq_getElem hlt⟩
      have hlt' : (t : Int) < ks.length := by omega
      have hok2 := List.mem_of_getElem? hz
      obtain ⟨o0, o1⟩ := hkn o hok2
      obtain ⟨hro, _⟩ := rdx_at o0 o1
      simp (maxSteps := 4000000) -implicitDefEqProofs -dsimp (disch := omega) only [↓AW_skip, ↓AW_ops, ↓AW_seq, ↓AW_cond, ↓AW_block, ↓AOps_nil, ↓AOps_pu, ↓AOps_ld, on_some, condB_t, ↓then_normal, pval, lval_ld, rd_S, rd_C, put_S, ↓AW_toLoop, chkd, isAdr, bgot, cells_agg, partA, eq_self, mk, List.foldl_cons, List.foldl_nil, List.replicate_succ, List.replicate_zero, List.set_cons_zero, List.set_cons_succ, List.getElem?_cons_zero, List.getElem?_cons_succ, List.drop_zero, List.drop_succ_cons, List.take_succ_cons, List.take_nil, Option.getD_some, List.length_cons, List.length_nil, Nat.reduceAdd, Nat.reduceLeDiff, Nat.zero_add, bin_lss, if_true, if_false, Bool.false_eq_true, decide_true, Go.Eng.e1, hlt', hxH.idx hlt, hxH.ld0 hz 1 false (by decide), huH.len]
      have hz2 := hz
      have hlt2 := hlt
      clear hz hlt'
      refine LoopK.by 59 (fun x : Nat × AHeap => x.1 ≤ rs.length ∧ A <+: x.2 ∧ ∀ i, 0 ≤ i → i < (x.1 : Int) → swp P rs ks o i → wct rs o ≤ wct rs i) (fun x => [(1, v), (2, .agg [I P, u]), (10, I o), (21, v), (22, I ks.length), (23, I t), (28, u), (29, I rs.length), (30, I x.1)]) (fun x => x.2) (fun x => rs.length - x.1) (0, H) ⟨by simp only; omega, hp, fun i h1 h2 => by simp only at h2; omega⟩ rfl (by simp [Has, rd_s]) rfl ?_
      rintro ⟨j, H1⟩ ⟨hj, hp1, hno1⟩
      simp only at hj hp1 hno1
      have hxH1 := hx.mono hp1
      have huH1 := hu.mono hp1
      by_cases hlt : j < rs.length
      · obtain ⟨z, hz⟩ : ∃ z, rs[j]? = some z := ⟨_, List.getElem?_eq_getElem hlt⟩
        have hlt' : (j : Int) < rs.length := by omega
        obtain ⟨hr, _⟩ := rdx_at (rs := rs) (k := (j : Int)) (by omega) (by omega)
        rw [Int.toNat_natCast, hz] at hr
        have hwe : z.2.2 = wct rs j := by rw [Option.some.inj hr]; rfl
        obtain ⟨r2, H2, c2, p2⟩ := s86 huH1 hxH1 hn hok hTr o (j : Int) (by omega)
        have hp2 := hp1.trans p2
        have huH2 := hu.mono hp2
        have hio := huH2.idxI (k := .i64) o0 (show o < (rs.length : Int) by omega)
        have hwo : (rdx rs o).2.2 = wct rs o := rfl
        simp (maxSteps := 4000000) -implicitDefEqProofs -dsimp (disch := omega) only [↓AW_skip, ↓AW_ops, ↓AW_seq, ↓AW_cond, ↓AW_block, ↓AOps_nil, ↓AOps_pu, ↓AOps_ld, ↓AOps_call, on_some, condB_t, ↓then_normal, pval, lval_ld, rd_S, rd_C, put_S, chkd, bput, bgot, cells_agg, splice, partA, eq_self, mk, List.foldl_cons, List.foldl_nil, List.replicate_succ, List.replicate_zero, List.set_cons_zero, List.set_cons_succ, List.getElem?_cons_zero, List.getElem?_cons_succ, List.drop_zero, List.drop_succ_cons, List.drop_nil, List.take_zero, List.take_succ_cons, List.take_nil, Option.getD_some, map_c, map_n, List.length_cons, List.length_nil, Nat.reduceAdd, Nat.reduceLeDiff, Nat.reduceEqDiff, Nat.zero_add, List.nil_append, List.append_nil, bin_lss, if_true, if_false, decide_true, ne_eq, not_true_eq_false, hlt', huH1.idx hlt, huH1.ld0 hz 3 true (by decide), e3]
        refine CallK.of c2 ?_
        have hnext : (swp P rs ks o (j : Int) → wct rs o ≤ wct rs (j : Int)) → ∀ i, 0 ≤ i → i < ((j + 1 : Nat) : Int) → swp P rs ks o i → wct rs o ≤ wct rs i := fun h i i0 i1 => by
          by_cases hij : i = (j : Int)
          · rw [hij]; exact h
          · exact hno1 i i0 (by omega)
        by_cases hs : swp P rs ks o (j : Int)
        · rw [decide_eq_true hs]
          by_cases hw : wct rs (j : Int) < wct rs o
          · have hb := hn.wb o0 o1
            simp (maxSteps := 4000000) -implicitDefEqProofs -dsimp (disch := omega) only [↓AW_ops, ↓AW_seq, ↓AW_cond, ↓AW_ret, ↓AOps_nil, ↓AOps_pu, ↓AOps_ld, ↓AOps_guard, on_some, extK_false, guardB_tt, condB_t, ↓then_normal, ↓then_ret, ↓inBlock_ret, ↓FinR_ret, pval, lval_ld, rd_S, rd_C, put_S, resV, resL, chkd, isAdr, bgot, cells_agg, partA, eq_self, mk, List.foldl_cons, List.foldl_nil, List.replicate_succ, List.replicate_zero, List.set_cons_zero, List.set_cons_succ, List.getElem?_cons_zero, List.getElem?_cons_succ, List.drop_zero, List.drop_succ_cons, List.take_succ_cons, List.take_nil, Option.getD_some, List.length_cons, List.length_nil, Nat.reduceAdd, Nat.reduceLeDiff, Nat.zero_add, bin_lss, if_true, if_false, Bool.false_eq_true, decide_true, hio, huH2.ld hro 1 2 false (by decide), e3, hwo, hwe, hw]
            exact ⟨_, _, gc_val hp2 rfl, o, (j : Int), true, rfl, rfl, .inl ⟨rfl, h0, ⟨o0, o1⟩, by omega, by rw [Int.toNat_natCast]; exact hs, hw⟩⟩
          · simp (maxSteps := 4000000) -implicitDefEqProofs -dsimp (disch := omega) only [↓AW_skip, ↓AW_ops, ↓AW_seq, ↓AW_cond, ↓AOps_nil, ↓AOps_pu, ↓AOps_ld, ↓AOps_guard, on_some, extK_false, guardB_tt, condB_f, ↓then_normal, ↓inBlock_normal, pval, lval_ld, rd_S, rd_C, put_S, chkd, isAdr, bgot, cells_agg, partA, eq_self, mk, List.foldl_cons, List.foldl_nil, List.replicate_succ, List.replicate_zero, List.set_cons_zero, List.set_cons_succ, List.getElem?_cons_zero, List.getElem?_cons_succ, List.drop_zero, List.drop_succ_cons, List.take_succ_cons, List.take_nil, Option.getD_some, List.length_cons, List.length_nil, Nat.reduceAdd, Nat.reduceLeDiff, Nat.zero_add, bin_add, bin_lss, w64, if_true, if_false, Bool.false_eq_true, decide_false, true_and, hio, huH2.ld hro 1 2 false (by decide), e3, hwo, hwe, hw]
            exact ⟨(j + 1, H2), ⟨hlt, hp2, hnext (fun _ => by omega)⟩, by simp [Has, rd_s], rfl, by simp only; omega⟩
        · rw [decide_eq_false hs]
          simp (maxSteps := 4000000) -implicitDefEqProofs -dsimp (disch := omega) only [↓AW_skip, ↓AW_ops, ↓AW_seq, ↓AW_cond, ↓AOps_nil, ↓AOps_pu, ↓AOps_guard, on_some, extK_false, guardB_ft, skipS_some, condB_f, ↓then_normal, ↓inBlock_normal, pval, rd_S, rd_C, put_S, eq_self, mk, List.foldl_cons, List.foldl_nil, List.replicate_succ, List.replicate_zero, List.set_cons_zero, List.set_cons_succ, List.getElem?_cons_zero, List.getElem?_cons_succ, Option.getD_some, List.length_cons, List.length_nil, Nat.reduceAdd, Nat.zero_add, bin_add, w64, if_false, Bool.false_eq_true, true_and]
          exact ⟨(j + 1, H2), ⟨hlt, hp2, hnext (fun h => absurd h hs)⟩, by simp [Has, rd_s], rfl, by simp only; omega⟩
      · have hlt' : ¬ ((j : Int) < rs.length) := by omega
        simp (maxSteps := 4000000) -implicitDefEqProofs -dsimp (disch := omega) only [↓AW_ops, ↓AW_seq, ↓AW_cond, ↓AW_exit, ↓AW_ret, ↓AOps_nil, ↓AOps_pu, on_some, condB_f, ↓then_normal, ↓then_exit, ↓inBlock_normal, ↓inBlock_exit, ↓FinR_ret, pval, rd_S, rd_C, put_S, resV, resL, eq_self, mk, List.foldl_cons, List.foldl_nil, List.replicate_succ, List.replicate_zero, List.set_cons_zero, List.set_cons_succ, List.getElem?_cons_zero, List.getElem?_cons_succ, Option.getD_some, List.length_cons, List.length_nil, Nat.reduceAdd, Nat.reduceEqDiff, Nat.zero_add, bin_add, bin_lss, w64, if_true, if_false, decide_false, true_and, reduceCtorEq, hlt']
        refine ⟨(t + 1, H1), ⟨hlt2, hp1, fun o' i ho' hi => ?_⟩, by simp [Has, rd_s], rfl, by simp only; omega⟩
        simp only at ho'
        rw [List.take_add_one, hz2] at ho'
        rcases List.mem_append.1 ho' with h | h
        · exact hno o' i h hi
        · have : o' = o := by simpa using h
          rw [this]
          exact hno1 i hi.1 (by omega)
    · have hlt' : ¬ ((t : Int) < ks.length) := by omega
      rw [List.take_of_length_le (by omega)] at hno
      simp (maxSteps := 4000000) -implicitDefEqProofs -dsimp (disch := omega) only [↓AW_ops, ↓AW_seq, ↓AW_cond, ↓AW_exit, ↓AW_ret, ↓AOps_nil, ↓AOps_pu, on_some, condB_f, ↓then_normal, ↓then_exit, ↓inBlock_exit, ↓FinR_ret, pval, rd_S, rd_C, put_S, resV, resL, eq_self, mk, List.foldl_cons, List.foldl_nil, List.replicate_succ, List.replicate_zero, List.set_cons_zero, List.set_cons_succ, List.getElem?_cons_zero, List.getElem?_cons_succ, Option.getD_some, bin_lss, if_true, decide_false, hlt']
      exact ⟨_, _, gc_val hp rfl, 0, 0, false, rfl, rfl, .inr ⟨rfl, rfl, rfl, fun _ => by rw [Int.toNat_natCast]; exact hno⟩⟩
  obtain ⟨r, H', h1, o, i, is, rfl, rfl, h2⟩ := key
  exact ⟨o, i, is, h1, h2⟩
end
end Go.Proofs.Ytkgfcdpckfhknaa

namespace Go.Proofs.Ytkgfcdpckfhknaa
open Go Go.Eng
section
variable {Q : Int} {rs : List Rd} {ks : List Int} {u v : AV} {A : AHeap}
set_option maxRecDepth 20000 in
set_option maxHeartbeats 16000000 in
theorem s43 (hu : L3 A u rs) (hW : W Q) : ACalls Try.prog 43 [.agg [I Q, u]] A (.tuple [I (tN Q rs), I (vE Q rs)]) A := by
  refine acalls hmix Try.func43 (by kernel_rfl) t43 1 rfl (by decide) ?_
  dsimp only [m43]
  simp (maxSteps := 4000000) -implicitDefEqProofs -dsimp (disch := omega) only [↓AW_ops, ↓AW_seq, ↓AOps_nil, ↓AOps_pu, ↓AOps_call, on_some, ↓then_normal, pval, rd_S, rd_C, put_S, chkd, bgot, AV.cells?, partA, eq_self, List.replicate_succ, List.replicate_zero, List.set_cons_zero, List.set_cons_succ, List.getElem?_cons_zero, List.getElem?_cons_succ, List.drop_zero, List.take_succ_cons, List.take_nil, Option.getD_some, map_c, map_n, List.length_cons, List.length_nil, Nat.reduceAdd, Nat.reduceSub, Nat.reduceLeDiff, Nat.reduceEqDiff, Nat.zero_add, List.cons_append, List.nil_append, if_true, if_false]
  refine CallK.of (s28 hu hW) ?_
  by_cases h0 : vE Q rs = 0
  case neg =>
    have hN : tN Q rs = 0 := if_neg h0
    rw [hN]
    simp (maxSteps := 4000000) -implicitDefEqProofs -dsimp (disch := omega) only [↓AW_ops, ↓AW_seq, ↓AW_cond, ↓AW_ret, ↓AOps_nil, ↓AOps_pu, on_some, extK_same, condB_t, ↓then_normal, ↓then_ret, ↓Fin_ret, pval, rd_S, rd_C, put_S, resV, resL, List.replicate_succ, List.replicate_zero, List.set_cons_zero, List.set_cons_succ, List.getElem?_cons_zero, List.getElem?_cons_succ, Option.getD_some, Nat.reduceSub, List.cons_append, List.nil_append, bin_neq, decide_true, not_false_eq_true, h0]
    exact gc_same rfl
  have hn := vE_0.1 h0
  obtain ⟨P, rfl⟩ := hn.nat
  have hN : tN P rs = (trees P rs).length := if_pos h0
  rw [h0, hN]
  have hP7 := hn.p7
  have hP1 := hn.p1
  have hl14 := hn.l
  have hshl := shl_one (k := .i64) hl14
  have hpw : 2 ^ rs.length ≤ 2 ^ 14 := Nat.pow_le_pow_right (by omega) hl14
  have hp2 : (2 : Nat) ^ 14 = 16384 := rfl
  unfold trees subs
  generalize hN : 2 ^ rs.length = N at *
  simp (maxSteps := 4000000) -implicitDefEqProofs -dsimp (disch := omega) only [↓AW_skip, ↓AW_ops, ↓AW_seq, ↓AW_cond, ↓AW_block, ↓AOps_nil, ↓AOps_pu, on_some, extK_same, condB_f, ↓then_normal, pval, rd_S, rd_C, put_S, ↓AW_toLoop, chkd, isAdr, bgot, AV.cells?, partA, eq_self, List.replicate_succ, List.replicate_zero, List.set_cons_zero, List.set_cons_succ, List.getElem?_cons_zero, List.getElem?_cons_succ, List.drop_zero, List.drop_succ_cons, List.take_succ_cons, List.take_nil, Option.getD_some, List.length_cons, List.length_nil, Nat.reduceAdd, Nat.reduceSub, Nat.reduceLeDiff, Nat.zero_add, List.cons_append, List.nil_append, bin_neq, if_true, if_false, Bool.false_eq_true, decide_false, not_true_eq_false, hu.len, hshl]
  refine LoopK.by 52 (fun x : Nat × Nat × AHeap => x.1 ≤ N ∧ A <+: x.2.2 ∧ x.2.1 = (((List.range x.1).map (bset rs.length)).filter (fun l => decide (Tree P (rdx rs) l))).length) (fun z => [(1, .agg [I P, u]), (5, I z.2.1), (17, I N), (18, I z.1)]) (fun z => z.2.2) (fun z => N - z.1) (0, 0, A) ⟨by simp only; omega, List.prefix_refl _, rfl⟩ rfl (by simp [Has, rd_s]) rfl ?_
  rintro ⟨s, c, H⟩ ⟨hs, hp, hc⟩
  simp only at hs hp hc
  have huH := hu.mono hp
  have hcs : c ≤ s := by
    rw [hc]
    have h2 := List.length_filter_le (fun l => decide (Tree P (rdx rs) l)) ((List.range s).map (bset rs.length))
    simp only [List.length_map, List.length_range] at h2
    exact h2
  by_cases hlt : s < N
  · have hlt' : (s : Int) < (N : Int) := by omega
    have next : (((List.range (s + 1)).map (bset rs.length)).filter (fun l => decide (Tree P (rdx rs) l))).length = c + (if Tree P (rdx rs) (bset rs.length s) then 1 else 0) := by
      rw [List.range_succ, List.map_append, List.filter_append, List.length_append, ← hc]
      congr 1
      by_cases ht : Tree P (rdx rs) (bset rs.length s)
      · rw [if_pos ht]; simp [ht]
      · rw [if_neg ht]; simp [ht]
    simp (maxSteps := 4000000) -implicitDefEqProofs -dsimp (disch := omega) only [↓AW_skip, ↓AW_ops, ↓AW_seq, ↓AW_cond, ↓AW_block, ↓AOps_nil, ↓AOps_pu, on_some, condB_t, ↓then_normal, pval, rd_S, rd_C, put_S, ↓AW_toLoop, chkd, isAdr, bgot, AV.cells?, partA, eq_self, mk, List.foldl_cons, List.foldl_nil, List.replicate_succ, List.replicate_zero, List.set_cons_zero, List.set_cons_succ, List.getElem?_cons_zero, List.getElem?_cons_succ, List.drop_zero, List.drop_succ_cons, List.take_succ_cons, List.take_nil, Option.getD_some, List.length_cons, List.length_nil, Nat.reduceAdd, Nat.reduceLeDiff, Nat.zero_add, bin_lss, if_true, if_false, Bool.false_eq_true, decide_true, hlt', huH.len]
    refine LoopK.by 52 (fun x : Nat × AV × AHeap => x.1 ≤ rs.length ∧ AccL 1 e1 H x.2.2 x.2.1 (bset x.1 s)) (fun z => [(1, .agg [I P, u]), (5, I c), (6, I s), (7, z.2.1), (17, I N), (18, I s), (23, I rs.length), (24, I z.1)]) (fun z => z.2.2) (fun z => rs.length - z.1) (0, .nilS, H) ⟨by simp only; omega, AccL.nil (List.prefix_refl _)⟩ rfl (by simp [Has, rd_s]) rfl ?_
    rintro ⟨j, z, G⟩ ⟨hj, hac⟩
    simp only at hj hac
    have huG := huH.mono hac.1
    by_cases hjl : j < rs.length
    · have hjl' : (j : Int) < rs.length := by omega
      have hshr := shr_by (k := .i64) (s := s) (j := j) (by omega)
      have hle : s / 2 ^ j ≤ 16384 := Nat.le_trans (Nat.div_le_self _ _) (by omega)
      have hand := and_one hle
      have hbit := bit_eq s j
      by_cases ht : s.testBit j = true
      · have hb1 := hbit.2 ht
        obtain ⟨v', H2, happ, hacc, _, n, len, rfl, _⟩ := AccL_push2 hac e1_len (by omega) (j : Int) (by have := bset_le j s; simp only [lim]; omega)
        simp only [Go.Eng.e1] at happ
        simp (maxSteps := 4000000) -implicitDefEqProofs -dsimp (disch := omega) only [↓AW_skip, ↓AW_ops, ↓AW_seq, ↓AW_cond, ↓AW_block, ↓AOps_nil, ↓AOps_pu, ↓AOps_ha, on_some, extK_false, extK_app, condB_t, ↓then_normal, ↓inBlock_normal, pval, hval, rd_S, rd_C, put_S, AV.cells?, splice, fillA, repl, eq_self, mk, List.foldl_cons, List.foldl_nil, List.replicate_succ, List.replicate_zero, List.set_cons_zero, List.set_cons_succ, List.getElem?_cons_zero, List.getElem?_cons_succ, List.drop_succ_cons, List.drop_nil, List.take_zero, Option.getD_some, map_c, map_n, List.length_cons, List.length_nil, Nat.reduceAdd, Nat.reduceLeDiff, Nat.zero_add, List.nil_append, List.append_nil, bin_add, bin_eql, bin_lss, w64, if_true, decide_true, true_and, and_true, hjl', hshr, hand, hb1, happ, List.replicate_zero, repl]
        exact ⟨(j + 1, .sl 1 n 0 len false, H2), ⟨hjl, by rw [(bset_step j s).1 ht]; exact hacc⟩, by simp [Has, rd_s], rfl, by simp only; omega⟩
      · have hb1 : ¬ (((s / 2 ^ j) % 2 : Nat) : Int) = 1 := fun e => ht (hbit.1 e)
        simp (maxSteps := 4000000) -implicitDefEqProofs -dsimp (disch := omega) only [↓AW_skip, ↓AW_ops, ↓AW_seq, ↓AW_cond, ↓AW_block, ↓AOps_nil, ↓AOps_pu, on_some, condB_t, condB_f, ↓then_normal, ↓inBlock_normal, pval, rd_S, rd_C, put_S, eq_self, mk, List.foldl_cons, List.foldl_nil, List.replicate_succ, List.replicate_zero, List.set_cons_zero, List.set_cons_succ, List.getElem?_cons_zero, List.getElem?_cons_succ, Option.getD_some, List.length_cons, List.length_nil, Nat.reduceAdd, Nat.zero_add, bin_add, bin_eql, bin_lss, w64, decide_true, decide_false, true_and, hjl', hshr, hand, hb1]
        exact ⟨(j + 1, z, G), ⟨hjl, by rw [(bset_step j s).2 (by simpa using ht)]; exact hac⟩, by simp [Has, rd_s], rfl, by simp only; omega⟩
    · have hjl' : ¬ (j : Int) < rs.length := by omega
      have hje : j = rs.length := by omega
      subst hje
      have hls := AccL_ls hac e1_len
      by_cases hb : ((bset rs.length s).length : Int) = P - 1
      case neg =>
        simp (maxSteps := 4000000) -implicitDefEqProofs -dsimp (disch := omega) only [↓AW_skip, ↓AW_ops, ↓AW_seq, ↓AW_cond, ↓AW_exit, ↓AW_ret, ↓AOps_nil, ↓AOps_pu, ↓AOps_guard, on_some, guardB_ft, skipS_some, condB_f, ↓then_normal, ↓then_exit, ↓inBlock_normal, ↓inBlock_exit, ↓Fin_ret, pval, rd_S, rd_C, put_S, resV, resL, chkd, isAdr, bgot, AV.cells?, partA, eq_self, mk, List.foldl_cons, List.foldl_nil, List.replicate_succ, List.replicate_zero, List.set_cons_zero, List.set_cons_succ, List.getElem?_cons_zero, List.getElem?_cons_succ, List.drop_zero, List.take_zero, List.take_succ_cons, Option.getD_some, List.length_cons, List.length_nil, Nat.reduceAdd, Nat.reduceLeDiff, Nat.reduceEqDiff, Nat.zero_add, bin_add, bin_sub, bin_eql, bin_lss, w64, if_true, if_false, Bool.false_eq_true, decide_false, true_and, reduceCtorEq, hjl', hls.len, hb]
        refine ⟨(s + 1, c, G), ⟨hlt, hp.trans hac.1, ?_⟩, by simp [Has, rd_s], rfl, by simp only; omega⟩
        rw [next, if_neg (fun ht => hb (by have := ht.1; omega))]
        rfl
      simp (maxSteps := 4000000) -implicitDefEqProofs -dsimp (disch := omega) only [↓AW_ops, ↓AW_seq, ↓AW_cond, ↓AW_exit, ↓AW_ret, ↓AOps_nil, ↓AOps_pu, ↓AOps_call, ↓AOps_guard, on_some, guardB_tt, condB_f, ↓then_normal, ↓then_exit, ↓inBlock_exit, ↓Fin_ret, pval, rd_S, rd_C, put_S, resV, resL, chkd, isAdr, bgot, AV.cells?, partA, eq_self, mk, List.foldl_cons, List.foldl_nil, List.replicate_succ, List.replicate_zero, List.set_cons_zero, List.set_cons_succ, List.getElem?_cons_zero, List.getElem?_cons_succ, List.drop_zero, List.take_zero, List.take_succ_cons, List.take_nil, Option.getD_some, map_c, map_n, List.length_cons, List.length_nil, Nat.reduceAdd, Nat.reduceLeDiff, Nat.reduceEqDiff, Nat.zero_add, bin_add, bin_sub, bin_eql, bin_lss, w64, if_true, if_false, Bool.false_eq_true, decide_true, decide_false, true_and, reduceCtorEq, hjl', hls.len, hb]
      refine CallK.of (s60 huG hls hn (bset_nos s (by omega)) (by have := bset_le rs.length s; omega)) ?_
      by_cases ht : Tree P (rdx rs) (bset rs.length s)
      · rw [decide_eq_true ht]
        simp (maxSteps := 4000000) -implicitDefEqProofs -dsimp (disch := omega) only [↓AW_ops, ↓AW_cond, ↓AOps_nil, ↓AOps_pu, on_some, extK_same, condB_t, ↓then_normal, ↓inBlock_normal, pval, rd_S, rd_C, put_S, eq_self, mk, List.foldl_cons, List.foldl_nil, List.replicate_succ, List.replicate_zero, List.set_cons_zero, List.set_cons_succ, List.getElem?_cons_zero, List.getElem?_cons_succ, Option.getD_some, List.length_cons, List.length_nil, Nat.reduceAdd, Nat.zero_add, bin_add, w64, if_true, true_and]
        refine ⟨(s + 1, c + 1, G), ⟨hlt, hp.trans hac.1, ?_⟩, by simp [Has, rd_s], rfl, by simp only; omega⟩
        rw [next, if_pos ht]
      · rw [decide_eq_false ht]
        simp (maxSteps := 4000000) -implicitDefEqProofs -dsimp (disch := omega) only [↓AW_skip, ↓AW_ops, ↓AW_cond, ↓AOps_nil, ↓AOps_pu, on_some, extK_same, condB_f, ↓then_normal, ↓inBlock_normal, pval, rd_S, rd_C, put_S, eq_self, mk, List.foldl_cons, List.foldl_nil, List.replicate_succ, List.replicate_zero, List.set_cons_zero, List.set_cons_succ, List.getElem?_cons_zero, List.getElem?_cons_succ, Option.getD_some, List.length_cons, List.length_nil, Nat.reduceAdd, Nat.zero_add, bin_add, w64, if_true, true_and]
        refine ⟨(s + 1, c, G), ⟨hlt, hp.trans hac.1, ?_⟩, by simp [Has, rd_s], rfl, by simp only; omega⟩
        rw [next, if_neg ht]
        rfl
  · have hlt' : ¬ (s : Int) < (N : Int) := by omega
    have hse : s = N := by omega
    subst hse
    rw [← hc]
    simp (maxSteps := 4000000) -implicitDefEqProofs -dsimp (disch := omega) only [↓AW_ops, ↓AW_seq, ↓AW_cond, ↓AW_exit, ↓AW_ret, ↓AOps_nil, ↓AOps_pu, on_some, condB_f, ↓then_normal, ↓then_exit, ↓inBlock_exit, ↓Fin_ret, pval, rd_S, rd_C, put_S, resV, resL, eq_self, mk, List.foldl_cons, List.foldl_nil, List.replicate_succ, List.replicate_zero, List.set_cons_zero, List.set_cons_succ, List.getElem?_cons_zero, List.getElem?_cons_succ, Option.getD_some, bin_lss, if_true, decide_false, hlt']
    exact gc_val hp rfl
/-- In all, or in none, of the cheapest trees. -/
def alw (P : Nat) (rs : List Rd) (k : Int) : Prop := ∀ T ∈ chl P rs, k ∈ T
def nev (P : Nat) (rs : List Rd) (k : Int) : Prop := ∀ T ∈ chl P rs, k ∉ T
noncomputable instance alwDec (P : Nat) (rs : List Rd) (k : Int) : Decidable (alw P rs k) := Classical.propDecidable _
noncomputable instance nevDec (P : Nat) (rs : List Rd) (k : Int) : Decidable (nev P rs k) := Classical.propDecidable _
section
variable {P : Nat} {k : Int} {L : List Int}
theorem not_jbl (hj : ¬ Jbl P rs) (hn : Net P rs) : chl P rs = [] := chl_nil (Classical.byContradiction (fun e => hj ((jbl_trees hn).2 e)))
theorem nos_tree (hn : Net P rs) {M : List Int} (hM : Nos rs M) : Tree P (rdx rs) (grw (rdx rs) [] M) → Jbl P rs := fun ht => by
  unfold Jbl
  exact tree_all (T := grw (rdx rs) [] M) (fun i hi => by have := hM i ((grw_sub M).subset hi); exact mem_plc.2 (by omega)) ht
theorem mem_chl' (hn : Net P rs) {T : List Int} : T ∈ chl P rs ↔ okS rs.length T ∧ Tree P (rdx rs) T ∧ cst (wct rs) T = best rs := by
  constructor
  · intro h
    have h1 := (mem_chl.1 h).1
    have h2 := mem_trees.1 h1
    exact ⟨h2.1, h2.2, (chl_best hn h1).1 h⟩
  · rintro ⟨h1, h2, h3⟩
    exact (chl_best hn (mem_trees.2 ⟨h1, h2⟩)).2 h3
theorem srt_chl (hn : Net P rs) {M : List Int} (hM : Nos rs M) (hd : M.Nodup) (ht : Tree P (rdx rs) M) (hc : cst (wct rs) M ≤ best rs) : srt M ∈ chl P rs := by
  rw [mem_chl' hn]
  have hle := best_le hn hM ht
  exact ⟨srt_okS hd hM, ht.perm (srt_perm M), by rw [cst_perm (srt_perm M)]; omega⟩
theorem alw_iff (hn : Net P rs) (hO : Ord rs L) (hj : Jbl P rs) : alw P rs k ↔ ¬ Tree P (rdx rs) (grw (rdx rs) [] (without L k)) ∨ best rs < cst (wct rs) (grw (rdx rs) [] (without L k)) := by
  have hwn : Nos rs (without L k) := fun i hi => hO.nos i (mem_wo.1 hi).1
  have hP := hwn.inP hn
  constructor
  · intro h
    refine Classical.byContradiction (fun hc => ?_)
    rw [not_or] at hc
    obtain ⟨h1, h2⟩ := hc
    have h1 := Classical.not_not.1 h1
    have hm := h _ (srt_chl hn (grw_nos hwn) ((hO.nodup.sublist List.filter_sublist).sublist (grw_sub _)) h1 (by omega))
    have := (grw_sub (R := rdx rs) (without L k)).subset ((srt_perm _).mem_iff.1 hm)
    exact (mem_wo.1 this).2 rfl
  · intro h T hT
    refine Classical.byContradiction (fun hk => ?_)
    obtain ⟨h1, h2, h3⟩ := (mem_chl' hn).1 hT
    have hTL : ∀ i ∈ T, i ∈ without L k := fun i hi => mem_wo.2 ⟨hO.mem.2 (okS_nos h1 i hi), fun e => hk (by rw [← e]; exact hi)⟩
    have ht : Tree P (rdx rs) (grw (rdx rs) [] (without L k)) := (grw_tree hP (by have := h2.1; omega)).2 (tree_all hTL h2)
    have hle : cst (wct rs) (grw (rdx rs) [] (without L k)) ≤ cst (wct rs) T := grw_opt (M := 99) hP (hO.s.sublist List.filter_sublist) (fun i hi => hO.wb hn i (mem_wo.1 hi).1) hTL h2.ind (by have := h2.1; have := ht.1; omega)
    rcases h with h | h
    · exact h ht
    · omega
end
end
end Go.Proofs.Ytkgfcdpckfhknaa

namespace Go.Proofs.Ytkgfcdpckfhknaa
open Go Go.Eng
theorem cst_one : ∀ X : List Int, cst (fun _ => 1) X = X.length
  | [] => rfl
  | x :: X => by rw [cst_cons, cst_one X, List.length_cons]; omega
/-- Weights under which one road comes first. -/
def wkf (w : Int → Int) (k : Int) : Int → Int := fun j => if j = k then 0 else w j + 1
theorem cst_wkf {w : Int → Int} {k : Int} : ∀ {Y : List Int}, k ∉ Y → cst (wkf w k) Y = cst w Y + Y.length
  | [], _ => rfl
  | y :: Y, h => by
    have hy : ¬ y = k := fun e => h (by rw [e]; simp)
    have hw : wkf w k y = w y + 1 := by unfold wkf; rw [if_neg hy]
    rw [cst_cons, cst_cons, cst_wkf (fun e => h (List.mem_cons_of_mem _ e)), hw, List.length_cons]
    omega
theorem cst_shift {w : Int → Int} {k : Int} {X : List Int} (hd : X.Nodup) (hk : k ∈ X) : cst (wkf w k) X = cst w X - w k + X.length - 1 := by
  have h1 := cst_wo (w := w) hd hk
  have h2 := cst_wo (w := wkf w k) hd hk
  have h3 := cst_wo (w := fun _ => 1) hd hk
  rw [cst_one, cst_one] at h3
  have h4 : k ∉ without X k := fun e => (mem_wo.1 e).2 rfl
  rw [cst_wkf h4] at h2
  have h5 : wkf w k k = 0 := by unfold wkf; rw [if_pos rfl]
  omega
section
variable {P : Nat} {rs : List Rd} {k : Int} {L : List Int}
theorem kfirst (hn : Net P rs) (hO : Ord rs L) (hk : 0 ≤ k ∧ k ≤ (rs.length : Int) - 1) : Nos rs (k :: without L k) ∧ (k :: without L k).Nodup ∧ k ∈ grw (rdx rs) [] (k :: without L k) ∧ (∀ i, i ∈ k :: without L k ↔ i ∈ L) := by
  have hwn : Nos rs (without L k) := fun i hi => hO.nos i (mem_wo.1 hi).1
  refine ⟨fun i hi => ?_, ?_, ?_, fun i => ?_⟩
  · rcases List.mem_cons.1 hi with e | e
    · rw [e]; exact hk
    · exact hwn i e
  · rw [List.nodup_cons]
    exact ⟨fun e => (mem_wo.1 e).2 rfl, hO.nodup.sublist List.filter_sublist⟩
  · rw [grw]
    have h0 : ¬ Cn (([] : List Int).map (rdx rs)) (rdx rs k).1 (rdx rs k).2.1 := fun h => (hn.r _ (rdx_at hk.1 hk.2).2).2.1 h.nil
    rw [if_neg h0]
    obtain ⟨X, h1, _⟩ := grw_more (R := rdx rs) (without L k) ([] ++ [k])
    rw [h1]
    simp
  · rw [List.mem_cons, mem_wo]
    constructor
    · rintro (e | e)
      · rw [e]; exact hO.mem.2 hk
      · exact e.1
    · intro e
      by_cases h : i = k
      · exact .inl h
      · exact .inr ⟨e, h⟩
theorem nev_iff (hn : Net P rs) (hO : Ord rs L) (hj : Jbl P rs) (hk : 0 ≤ k ∧ k ≤ (rs.length : Int) - 1) : nev P rs k ↔ ¬ Tree P (rdx rs) (grw (rdx rs) [] (k :: without L k)) ∨ best rs < cst (wct rs) (grw (rdx rs) [] (k :: without L k)) := by
  obtain ⟨hmn, hmd, hkm, hml⟩ := kfirst hn hO hk
  have hP := hmn.inP hn
  constructor
  · intro h
    refine Classical.byContradiction (fun hc => ?_)
    rw [not_or] at hc
    obtain ⟨h1, h2⟩ := hc
    have h1 := Classical.not_not.1 h1
    exact h _ (srt_chl hn (grw_nos hmn) (hmd.sublist (grw_sub _)) h1 (by omega)) ((srt_perm _).mem_iff.2 hkm)
  · intro h T hT hkT
    obtain ⟨h1, h2, h3⟩ := (mem_chl' hn).1 hT
    have hTL : ∀ i ∈ T, i ∈ k :: without L k := fun i hi => (hml i).2 (hO.mem.2 (okS_nos h1 i hi))
    have ht : Tree P (rdx rs) (grw (rdx rs) [] (k :: without L k)) := (grw_tree hP (by have := h2.1; omega)).2 (tree_all hTL h2)
    have hsw : (k :: without L k).Pairwise (fun a b => wkf (wct rs) k a ≤ wkf (wct rs) k b) := by
      rw [List.pairwise_cons]
      constructor
      · intro j hj
        have := hn.wb (hmn j (by simp [hj])).1 (hmn j (by simp [hj])).2
        have hjk := (mem_wo.1 hj).2
        unfold wkf
        rw [if_pos rfl, if_neg hjk]
        omega
      · refine List.Pairwise.imp_of_mem ?_ (hO.s.sublist (List.filter_sublist (p := fun x => !decide (x = k))))
        intro x y hx hy hxy
        have hx2 := (mem_wo.1 hx).2
        have hy2 := (mem_wo.1 hy).2
        unfold wkf
        rw [if_neg hx2, if_neg hy2]
        omega
    have hwb : ∀ j ∈ k :: without L k, 0 ≤ wkf (wct rs) k j ∧ wkf (wct rs) k j ≤ (100 : Nat) := fun j hj => by
      have := hn.wb (hmn j hj).1 (hmn j hj).2
      unfold wkf
      split <;> omega
    have hle := grw_opt (w := wkf (wct rs) k) (M := 100) hP hsw hwb hTL h2.ind (by have := h2.1; have := ht.1; omega)
    rw [cst_shift (hmd.sublist (grw_sub _)) hkm, cst_shift (okS_nodup h1) hkT] at hle
    have hl : (grw (rdx rs) [] (k :: without L k)).length = T.length := by have := h2.1; have := ht.1; omega
    rcases h with h | h
    · exact h ht
    · omega
theorem alw_no (hn : Net P rs) (hj : ¬ Jbl P rs) : alw P rs k ∧ nev P rs k := by
  have := not_jbl hj hn
  exact ⟨fun T hT => (by rw [this] at hT; cases hT), fun T hT => (by rw [this] at hT; cases hT)⟩
/-- Whether all cheapest trees have a road, by the greedy trees. -/
theorem alw_dec (hn : Net P rs) (hO : Ord rs L) : (decide (alw P rs k) : Bool) = (!decide (Tree P (rdx rs) (grw (rdx rs) [] (without L k))) || decide (cst (wct rs) (grw (rdx rs) [] L) < cst (wct rs) (grw (rdx rs) [] (without L k)))) := by
  rw [best_of hn hO]
  by_cases hj : Jbl P rs
  · rw [Bool.eq_iff_iff, decide_eq_true_eq, Bool.or_eq_true, Bool.not_eq_true', decide_eq_false_iff_not, decide_eq_true_eq]
    exact alw_iff hn hO hj
  · have h1 : ¬ Tree P (rdx rs) (grw (rdx rs) [] (without L k)) := fun h => hj (nos_tree hn (fun i hi => hO.nos i (mem_wo.1 hi).1) h)
    rw [decide_eq_true (alw_no hn hj).1, decide_eq_false h1]
    rfl
theorem nev_dec (hn : Net P rs) (hO : Ord rs L) (hk : 0 ≤ k ∧ k ≤ (rs.length : Int) - 1) : (decide (nev P rs k) : Bool) = (!decide (Tree P (rdx rs) (grw (rdx rs) [] (k :: without L k))) || decide (cst (wct rs) (grw (rdx rs) [] L) < cst (wct rs) (grw (rdx rs) [] (k :: without L k)))) := by
  rw [best_of hn hO]
  by_cases hj : Jbl P rs
  · rw [Bool.eq_iff_iff, decide_eq_true_eq, Bool.or_eq_true, Bool.not_eq_true', decide_eq_false_iff_not, decide_eq_true_eq]
    exact nev_iff hn hO hj hk
  · have h1 : ¬ Tree P (rdx rs) (grw (rdx rs) [] (k :: without L k)) := fun h => hj (nos_tree hn (kfirst hn hO hk).1 h)
    rw [decide_eq_true (alw_no hn hj).2, decide_eq_false h1]
    rfl
end
section
variable {P : Nat} {rs : List Rd} {ks : List Int} {u v : AV} {A : AHeap}
/-- Roads of which a closure says yes. -/
theorem s89 (hu : L3 A u rs) (hl : rs.length ≤ 1000) (f : FuncId) (cap : List AV) (g : Int → Bool) (hg : ∀ H, A <+: H → ∀ i : Int, 0 ≤ i → i < (rs.length : Int) → ACalls Try.prog f ([I i] ++ cap) H (B (g i)) H) :
    ∃ r H, ACalls Try.prog 89 [.agg [I P, u], .fn f cap] A r H ∧ A <+: H ∧ L1 H r ((nums rs).filter g) := by
  refine acallsR hmix Try.func89 (by kernel_rfl) t89 _ 2 rfl (by decide) ?_
  dsimp only [m89]
  simp (maxSteps := 4000000) -implicitDefEqProofs -dsimp (disch := omega) only [↓AW_ops, ↓AW_seq, ↓AW_block, ↓AOps_nil, ↓AOps_pu, on_some, ↓then_normal, pval, rd_S, rd_C, put_S, ↓AW_toLoop, chkd, isAdr, bgot, cells_agg, partA, eq_self, List.replicate_succ, List.replicate_zero, List.set_cons_zero, List.set_cons_succ, List.getElem?_cons_zero, List.getElem?_cons_succ, List.drop_zero, List.drop_succ_cons, List.take_succ_cons, List.take_nil, Option.getD_some, List.length_cons, List.length_nil, Nat.reduceAdd, Nat.reduceSub, Nat.reduceLeDiff, Nat.zero_add, List.cons_append, List.nil_append, if_true, if_false, Bool.false_eq_true, hu.len]
  refine LoopK.by 22 (fun x : Nat × AV × AHeap => x.1 ≤ rs.length ∧ AccL 1 e1 A x.2.2 x.2.1 ((plc x.1).filter g)) (fun x => [(1, .fn f cap), (5, x.2.1), (9, I rs.length), (10, I x.1)]) (fun x => x.2.2) (fun x => rs.length - x.1) (0, .nilS, A) ⟨by simp only; omega, AccL.nil (List.prefix_refl _)⟩ rfl (by simp [Has, rd_s]) rfl ?_
  rintro ⟨j, y, H⟩ ⟨hj, hac⟩
  simp only at hj hac
  by_cases hlt : j < rs.length
  · have hlt' : (j : Int) < rs.length := by omega
    have hfl := filt_len g j
    have hsu := filt_succ g j
    simp (maxSteps := 4000000) -implicitDefEqProofs -dsimp (disch := omega) only [↓AW_skip, ↓AW_ops, ↓AW_seq, ↓AW_cond, ↓AW_block, ↓AOps_nil, ↓AOps_pu, ↓AOps_callv, on_some, CallF_fn, condB_t, ↓then_normal, pval, rd_S, put_S, mk, List.foldl_cons, List.foldl_nil, List.replicate_succ, List.replicate_zero, List.set_cons_zero, List.set_cons_succ, List.getElem?_cons_zero, List.getElem?_cons_succ, Option.getD_some, map_c, map_n, List.cons_append, List.nil_append, bin_lss, decide_true, hlt']
    refine CallK.of (hg H hac.1 (j : Int) (by omega) hlt') ?_
    cases hb : g (j : Int) with
    | true =>
      rw [if_pos hb] at hsu
      obtain ⟨v', H2, happ, hacc⟩ := hac.push e1_len (j : Int) (by simp only [lim]; omega)
      simp only [Go.Eng.e1] at happ
      simp (maxSteps := 4000000) -implicitDefEqProofs -dsimp (disch := omega) only [↓AW_ops, ↓AW_cond, ↓AOps_nil, ↓AOps_pu, ↓AOps_ha, on_some, extK_false, extK_app, extK_same, condB_t, ↓then_normal, ↓inBlock_normal, pval, hval_blds, hval_app, rd_S, rd_C, put_S, cells_int, splice, fillA, repl, eq_self, mk, List.foldl_cons, List.foldl_nil, List.replicate_succ, List.replicate_zero, List.set_cons_zero, List.set_cons_succ, List.getElem?_cons_zero, List.getElem?_cons_succ, List.drop_succ_cons, List.drop_nil, List.take_zero, Option.getD_some, map_c, map_n, List.length_cons, List.length_nil, Nat.reduceAdd, Nat.reduceLeDiff, Nat.zero_add, List.nil_append, List.append_nil, bin_add, w64, if_true, true_and, and_true, happ, List.replicate_zero, repl]
      exact ⟨(j + 1, v', H2), ⟨hlt, by rw [hsu]; exact hacc⟩, by simp [Has, rd_s], rfl, by simp only; omega⟩
    | false =>
      rw [if_neg (by rw [hb]; simp), List.append_nil] at hsu
      simp (maxSteps := 4000000) -implicitDefEqProofs -dsimp (disch := omega) only [↓AW_skip, ↓AW_ops, ↓AW_cond, ↓AOps_nil, ↓AOps_pu, on_some, extK_same, condB_f, ↓then_normal, ↓inBlock_normal, pval, rd_S, rd_C, put_S, eq_self, mk, List.foldl_cons, List.foldl_nil, List.replicate_succ, List.replicate_zero, List.set_cons_zero, List.set_cons_succ, List.getElem?_cons_zero, List.getElem?_cons_succ, Option.getD_some, List.length_cons, List.length_nil, Nat.reduceAdd, Nat.zero_add, bin_add, w64, true_and]
      exact ⟨(j + 1, y, H), ⟨hlt, by rw [hsu]; exact hac⟩, by simp [Has, rd_s], rfl, by simp only; omega⟩
  · have hlt' : ¬ ((j : Int) < rs.length) := by omega
    have hje : j = rs.length := by omega
    subst hje
    simp (maxSteps := 4000000) -implicitDefEqProofs -dsimp (disch := omega) only [↓AW_ops, ↓AW_seq, ↓AW_cond, ↓AW_exit, ↓AW_ret, ↓AOps_nil, ↓AOps_pu, on_some, condB_f, ↓then_normal, ↓then_exit, ↓inBlock_exit, ↓FinR_ret, pval, rd_S, put_S, resV, resL, eq_self, mk, List.foldl_cons, List.foldl_nil, List.replicate_succ, List.replicate_zero, List.set_cons_zero, List.set_cons_succ, List.getElem?_cons_zero, List.getElem?_cons_succ, Option.getD_some, bin_lss, if_true, decide_false, hlt']
    exact ⟨_, _, gc_all, hac.1, AccL_ls hac e1_len⟩
set_option maxRecDepth 20000 in
set_option maxHeartbeats 16000000 in
theorem s90 {a b c : Nat} {lv gv : AV} {L : List Int} {k : Int} (hu : L3 A u rs) (hn : Net P rs) (hO : Ord rs L) (hk : 0 ≤ k ∧ k ≤ (rs.length : Int) - 1) (h1 : ldA 2 true (.ptr a 0) A = some (.agg [I P, u])) (h2 : ldA 1 false (.ptr b 0) A = some lv) (h3 : ldA 1 false (.ptr c 0) A = some gv) (hL : L1 A lv L) (hG : L1 A gv (srt (grw (rdx rs) [] L))) :
    ACalls Try.prog 90 ([I k] ++ [.ptr a 0, .ptr b 0, .ptr c 0]) A (B (decide (alw P rs k))) A := by
  have hl14 := hn.l
  have hP7 := hn.p7
  rw [List.singleton_append, alw_dec hn hO]
  refine acalls hmix Try.func90 (by kernel_rfl) t90 4 rfl (by decide) ?_
  dsimp only [m90]
  simp (maxSteps := 4000000) -implicitDefEqProofs -dsimp (disch := omega) only [↓AW_ops, ↓AW_seq, ↓AOps_nil, ↓AOps_pu, ↓AOps_ld, ↓AOps_call, on_some, ↓then_normal, pval, lval, rd_S, rd_C, put_S, List.replicate_succ, List.replicate_zero, List.set_cons_zero, List.set_cons_succ, List.getElem?_cons_zero, List.getElem?_cons_succ, Option.getD_some, map_c, map_n, Nat.reduceSub, List.cons_append, List.nil_append, h1, h2]
  obtain ⟨r1, H1, c1, p1, hW⟩ := s63 hL (by rw [hO.len]; omega) (by rw [hO.len]; omega) k
  refine CallK.of c1 ?_
  have hwn : Nos rs (without L k) := fun i hi => hO.nos i (mem_wo.1 hi).1
  have hwl := without_le L k
  rw [hO.len] at hwl
  simp (maxSteps := 4000000) -implicitDefEqProofs -dsimp (disch := omega) only [↓AOps_call, rd_S, put_S, List.replicate_succ, List.replicate_zero, List.set_cons_zero, List.set_cons_succ, List.getElem?_cons_zero, List.getElem?_cons_succ, Option.getD_some, map_c, map_n, Nat.reduceSub, List.cons_append, List.nil_append, extK_of p1]
  obtain ⟨r2, H2, c2, p2, hG2⟩ := c_grow (hu.mono p1) hW hn hwn (by omega)
  refine CallK.of c2 ?_
  have hp := p1.trans p2
  have h1' := ld_mono hp h1
  have h3' := ld_mono hp h3
  have huH := hu.mono hp
  have hgn : Nos rs (srt (grw (rdx rs) [] (without L k))) := fun i hi => grw_nos hwn i ((srt_perm _).mem_iff.1 hi)
  have hgn2 : Nos rs (srt (grw (rdx rs) [] L)) := fun i hi => grw_nos hO.nos i ((srt_perm _).mem_iff.1 hi)
  have hsm := grw_small hn hwn
  have hsm2 := grw_small hn hO.nos
  simp (maxSteps := 4000000) -implicitDefEqProofs -dsimp (disch := omega) only [↓AW_ops, ↓AW_seq, ↓AOps_nil, ↓AOps_pu, ↓AOps_ld, ↓AOps_call, on_some, extK_false, ↓then_normal, pval, lval, rd_S, put_S, List.replicate_succ, List.replicate_zero, List.set_cons_zero, List.set_cons_succ, List.getElem?_cons_zero, List.getElem?_cons_succ, Option.getD_some, map_c, map_n, Nat.reduceSub, List.cons_append, List.nil_append, h1']
  refine CallK.of (s60 huH hG2 hn hgn (by rw [srt_len]; omega)) ?_
  have htt : decide (Tree P (rdx rs) (srt (grw (rdx rs) [] (without L k)))) = decide (Tree P (rdx rs) (grw (rdx rs) [] (without L k))) := decide_eq_decide.2 ⟨fun h => h.perm (srt_perm _).symm, fun h => h.perm (srt_perm _)⟩
  rw [htt]
  by_cases ht : Tree P (rdx rs) (grw (rdx rs) [] (without L k))
  · rw [decide_eq_true ht]
    simp (maxSteps := 4000000) -implicitDefEqProofs -dsimp (disch := omega) only [↓AOps_pu, ↓AOps_ld, ↓AOps_call, ↓AOps_guard, on_some, extK_same, guardB_ff, pval, lval, rd_S, put_S, List.replicate_succ, List.replicate_zero, List.set_cons_zero, List.set_cons_succ, List.getElem?_cons_zero, List.getElem?_cons_succ, Option.getD_some, map_c, map_n, Nat.reduceSub, List.cons_append, List.nil_append, Bool.not_true, h1']
    refine CallK.of (s79 huH hG2 hn hgn (by rw [srt_len]; omega)) ?_
    simp (maxSteps := 4000000) -implicitDefEqProofs -dsimp (disch := omega) only [↓AOps_ld, ↓AOps_call, ↓AOps_guard, on_some, extK_same, guardB_ff, lval, rd_S, put_S, List.replicate_succ, List.replicate_zero, List.set_cons_zero, List.set_cons_succ, List.getElem?_cons_zero, List.getElem?_cons_succ, Option.getD_some, map_c, map_n, Nat.reduceSub, List.cons_append, List.nil_append, h1', h3']
    refine CallK.of (s79 huH (hG.mono hp) hn hgn2 (by rw [srt_len]; omega)) ?_
    rw [cst_perm (srt_perm _), cst_perm (srt_perm _)]
    simp (maxSteps := 4000000) -implicitDefEqProofs -dsimp (disch := omega) only [↓AW_ret, ↓AOps_nil, ↓AOps_pu, ↓AOps_guard, on_some, extK_same, guardB_ff, ↓then_normal, ↓Fin_ret, pval, rd_S, rd_C, put_S, resV, resL, List.replicate_succ, List.replicate_zero, List.set_cons_zero, List.set_cons_succ, List.getElem?_cons_zero, List.getElem?_cons_succ, Option.getD_some, Nat.reduceSub, List.cons_append, List.nil_append, bin_gtr, if_false, Bool.false_eq_true, Bool.not_true]
    exact gc_val hp rfl
  · rw [decide_eq_false ht]
    simp (maxSteps := 4000000) -implicitDefEqProofs -dsimp (disch := omega) only [↓AW_ret, ↓AOps_nil, ↓AOps_pu, ↓AOps_guard, on_some, extK_same, guardB_tf, skipS_some, ↓then_normal, ↓Fin_ret, pval, rd_S, rd_C, put_S, resV, resL, eq_self, List.replicate_succ, List.replicate_zero, List.set_cons_zero, List.set_cons_succ, List.getElem?_cons_zero, List.getElem?_cons_succ, Option.getD_some, Nat.reduceSub, List.cons_append, List.nil_append, if_true, Bool.not_false]
    exact gc_val hp rfl
end
end Go.Proofs.Ytkgfcdpckfhknaa

namespace Go.Proofs.Ytkgfcdpckfhknaa
open Go Go.Eng
/-- A list that grows, or that has room and no element yet. -/
def NS (A H : AHeap) (v : AV) (xs : List Int) : Prop :=
  AccL 1 e1 A H v xs ∨ (xs = [] ∧ A <+: H ∧ ∃ n l, v = .sl 1 n 0 0 false ∧ A.length ≤ n ∧ H[n]? = some (.cells true l))
theorem NS.pre {A H : AHeap} {v : AV} {xs : List Int} (h : NS A H v xs) : A <+: H := by
  rcases h with h | h
  · exact AccL.pre h
  · exact h.2.1
theorem NS.push {A H : AHeap} {v y : AV} {xs ys : List Int} (h : NS A H v xs) (hy : L1 H y ys) (hl : xs.length + ys.length ≤ lim) : ∃ v' H', appA 1 H v y = some (v', H') ∧ NS A H' v' (xs ++ ys) := by
  rcases h with h | ⟨rfl, hp, n, l, rfl, hn, hg⟩
  · obtain ⟨v', H', h1, h2⟩ := h.pushes hy hl
    exact ⟨v', H', h1, .inl h2⟩
  · have hc := hy.hc
    by_cases h0 : ys.length = 0
    · have : ys = [] := List.eq_nil_of_length_eq_zero h0
      subst this
      refine ⟨.sl 1 n 0 0 false, H, ?_, .inr ⟨rfl, hp, n, l, rfl, hn, hg⟩⟩
      unfold appA
      rw [hc]
      simp
    · have hlim : ys.length ≤ lim := by simpa using hl
      refine ⟨.sl 1 H.length 0 ys.length false, H.set n .dead ++ [.cells true (ys.flatMap e1)], ?_, .inl ⟨(pre_set hp hn _).trans (pre_app _ _), ?_, .inr ⟨by simpa using (by omega : 0 < ys.length), H.length, by simp, hp.length_le, by simp⟩⟩⟩
      · unfold appA
        rw [hc]
        simp [h0, hlim, hg]
      · simpa using flatMap_length e1_len ys
theorem c_Grow (n : Nat) (hn : n ≤ 1000) (A : AHeap) : ∃ v H, ACalls Try.prog 107 [.nilS, I n] A v H ∧ NS A H v [] := by
  by_cases h0 : n = 0
  · subst h0
    refine ⟨.nilS, A, ?_, .inl (AccL.nil (List.prefix_refl _))⟩
    refine acalls hmix Try.func107 (by kernel_rfl) t107 2 rfl (by decide) ?_
    dsimp only [m107]
    simp (maxSteps := 4000000) -implicitDefEqProofs -dsimp (disch := omega) only [↓AW_skip, ↓AW_ops, ↓AW_seq, ↓AW_cond, ↓AW_ret, ↓AOps_nil, ↓AOps_pu, on_some, condB_f, ↓then_normal, ↓Fin_ret, pval, rd_S, rd_C, put_S, resV, resL, List.replicate_succ, List.replicate_zero, List.set_cons_zero, List.set_cons_succ, List.getElem?_cons_zero, List.getElem?_cons_succ, Option.getD_some, Nat.reduceSub, List.cons_append, List.nil_append, bin_sub, bin_lss, bin_gtr, w64, decide_false, Int.reduceLT, Int.reduceSub, capA, lenA, show ((0 : Nat) : Int) = 0 from rfl]
    exact gc_same rfl
  · refine ⟨.sl 1 A.length 0 0 false, A ++ [.cells true (repl [I 0] n)], ?_, .inr ⟨rfl, pre_app _ _, A.length, repl [I 0] n, rfl, Nat.le_refl _, by simp⟩⟩
    refine acalls hmix Try.func107 (by kernel_rfl) t107 2 rfl (by decide) ?_
    have h1 : ¬ (n : Int) < 0 := by omega
    have h2 : (0 : Int) < n := by omega
    have h3 : (0 : Int) < n ∧ (n : Int) ≤ ((lim : Nat) : Int) := by unfold lim; omega
    have h4 : slcA 1 .nilS none (some (.int .i64 0)) none = some .nilS := rfl
    have h5 : slcA 1 (.sl 1 A.length 0 n false) none (some (.int .i64 0)) none = some (.sl 1 A.length 0 0 false) := by simp [slcA, bnd]
    dsimp only [m107]
    simp (maxSteps := 4000000) -implicitDefEqProofs -dsimp (disch := omega) only [↓AW_skip, ↓AW_ops, ↓AW_seq, ↓AW_cond, ↓AW_ret, ↓AOps_nil, ↓AOps_pu, ↓AOps_ha, on_some, extK_app, condB_t, condB_f, ↓then_normal, ↓Fin_ret, pval, hval, rd_S, rd_C, put_S, resV, resL, List.replicate_succ, List.replicate_zero, List.set_cons_zero, List.set_cons_succ, List.getElem?_cons_zero, List.getElem?_cons_succ, Option.getD_some, Option.map_some, Option.map_none, Nat.reduceSub, List.cons_append, List.nil_append, bin_sub, bin_lss, bin_gtr, w64, if_true, decide_true, decide_false, and_true, capA, appzA, lenA, h1, Int.sub_zero, Int.sub_self, h2, h4, appzA, h3, Int.toNat_natCast, h5]
    exact gc_all
def catZ (zs : List (AV × List Int)) : List Int := zs.flatMap Prod.snd
def lenZ (zs : List (AV × List Int)) : Int := (zs.map fun z => (z.2.length : Int)).sum
theorem catZ_take {zs : List (AV × List Int)} {i : Nat} {z : AV × List Int} (hz : zs[i]? = some z) : catZ (zs.take (i + 1)) = catZ (zs.take i) ++ z.2 := by
  rw [List.take_add_one, hz]; simp [catZ]
theorem lenZ_take {zs : List (AV × List Int)} {i : Nat} {z : AV × List Int} (hz : zs[i]? = some z) : lenZ (zs.take (i + 1)) = lenZ (zs.take i) + z.2.length := by
  rw [List.take_add_one, hz]; simp [lenZ]
theorem lenZ_bound : ∀ {zs : List (AV × List Int)}, (∀ z ∈ zs, z.2.length ≤ 100) → 0 ≤ lenZ zs ∧ lenZ zs ≤ 100 * zs.length ∧ ((catZ zs).length : Int) = lenZ zs
  | [], _ => by simp [lenZ, catZ]
  | z :: zs, h => by
    have ih := lenZ_bound (zs := zs) (fun y hy => h y (by simp [hy]))
    have hz := h z (by simp)
    have q1 : lenZ (z :: zs) = z.2.length + lenZ zs := by simp [lenZ]
    have q2 : (catZ (z :: zs)).length = z.2.length + (catZ zs).length := by simp [catZ]
    rw [q1, q2, List.length_cons]
    omega
theorem c_Concat {zs : List (AV × List Int)} {u : AV} {A : AHeap} (hz0 : Ls 1 e0 A u zs) (hin : ∀ z ∈ zs, L1 A z.1 z.2) (hl : zs.length ≤ 8) (hb : ∀ z ∈ zs, z.2.length ≤ 100) (hne : 0 < (catZ zs).length) :
    ∃ r H, ACalls Try.prog 93 [u] A r H ∧ A <+: H ∧ L1 H r (catZ zs) := by
  refine acallsR hmix Try.func93 (by kernel_rfl) t93 _ 1 rfl (by decide) ?_
  have hbt : ∀ i, 0 ≤ lenZ (zs.take i) ∧ lenZ (zs.take i) ≤ 800 := fun i => by
    have := lenZ_bound (zs := zs.take i) (fun z hz => hb z (List.mem_of_mem_take hz))
    rw [List.length_take] at this
    omega
  dsimp only [m93]
  simp (maxSteps := 4000000) -implicitDefEqProofs -dsimp (disch := omega) only [↓AW_ops, ↓AW_seq, ↓AW_block, ↓AOps_nil, ↓AOps_pu, on_some, ↓then_normal, pval, rd_S, rd_C, put_S, ↓AW_toLoop, List.replicate_succ, List.replicate_zero, List.set_cons_zero, List.set_cons_succ, List.getElem?_cons_zero, List.getElem?_cons_succ, Option.getD_some, Nat.reduceSub, List.cons_append, List.nil_append, hz0.len]
  refine LoopK.by 36 (fun i : Nat => i ≤ zs.length) (fun i => [(0, u), (3, I (lenZ (zs.take i))), (9, u), (10, I zs.length), (11, I i)]) (fun _ => A) (fun i => zs.length - i) 0 (by omega) rfl (by simp [Has, rd_s, lenZ]) rfl ?_
  intro i hi
  by_cases hlt : i < zs.length
  · obtain ⟨z, hz⟩ : ∃ z, zs[i]? = some z := ⟨_, List.getElem?_eq_getElem hlt⟩
    have hlt' : (i : Int) < zs.length := by omega
    have h1 := hbt i
    have h2 := hbt (i + 1)
    have ht := lenZ_take hz
    have h3 : ¬ lenZ (zs.take i) + z.2.length < 0 := by omega
    simp (maxSteps := 4000000) -implicitDefEqProofs -dsimp (disch := omega) only [↓AW_skip, ↓AW_ops, ↓AW_seq, ↓AW_cond, ↓AW_block, ↓AOps_nil, ↓AOps_pu, ↓AOps_ld, on_some, condB_t, condB_f, ↓then_normal, ↓inBlock_normal, pval, lval, rd_S, rd_C, put_S, partA, eq_self, mk, List.foldl_cons, List.foldl_nil, List.replicate_succ, List.replicate_zero, List.set_cons_zero, List.set_cons_succ, List.getElem?_cons_zero, List.getElem?_cons_succ, List.drop_zero, List.take_succ_cons, List.take_nil, Option.getD_some, List.length_cons, List.length_nil, Nat.reduceAdd, Nat.reduceLeDiff, Nat.zero_add, bin_add, bin_lss, w64, if_true, if_false, Bool.false_eq_true, decide_true, decide_false, true_and, hlt', hz0.idx hlt, hz0.ld0 hz 1 false (by decide), e0, (hin z (List.mem_of_getElem? hz)).len, h3]
    exact ⟨i + 1, hlt, by simp [Has, rd_s, ht], by omega⟩
  have hlt' : ¬ ((i : Int) < zs.length) := by omega
  have h1 := hbt zs.length
  rw [List.take_length] at h1
  rw [List.take_of_length_le (by omega)]
  obtain ⟨N, hN⟩ : ∃ N : Nat, lenZ zs = N := ⟨(lenZ zs).toNat, by omega⟩
  rw [hN] at h1 ⊢
  obtain ⟨v, H, hc, hns⟩ := c_Grow N (by omega) A
  simp (maxSteps := 4000000) -implicitDefEqProofs -dsimp (disch := omega) only [↓AW_ops, ↓AW_seq, ↓AW_cond, ↓AW_exit, ↓AOps_nil, ↓AOps_pu, ↓AOps_call, on_some, condB_f, ↓then_normal, ↓then_exit, ↓inBlock_exit, pval, rd_S, rd_C, put_S, eq_self, mk, List.foldl_cons, List.foldl_nil, List.replicate_succ, List.replicate_zero, List.set_cons_zero, List.set_cons_succ, List.getElem?_cons_zero, List.getElem?_cons_succ, Option.getD_some, map_c, map_n, bin_lss, if_true, decide_false, hlt']
  refine CallK.of (hc) ?_
  simp (maxSteps := 4000000) -implicitDefEqProofs -dsimp (disch := omega) only [↓AW_ops, ↓AW_seq, ↓AW_block, ↓AOps_nil, ↓AOps_pu, on_some, extK_false, ↓then_normal, pval, rd_S, rd_C, put_S, ↓AW_toLoop, mk, List.foldl_cons, List.foldl_nil, List.replicate_succ, List.replicate_zero, List.set_cons_zero, List.set_cons_succ, List.getElem?_cons_zero, List.getElem?_cons_succ, Option.getD_some, hz0.len]
  have hcl : ∀ i, ((catZ (zs.take i)).length : Int) ≤ 800 := fun i => by
    have := lenZ_bound (zs := zs.take i) (fun z hz => hb z (List.mem_of_mem_take hz))
    rw [List.length_take] at this
    omega
  refine LoopK.by 36 (fun x : Nat × AV × AHeap => x.1 ≤ zs.length ∧ NS A x.2.2 x.2.1 (catZ (zs.take x.1))) (fun x => [(6, x.2.1), (25, u), (26, I zs.length), (27, I x.1)]) (fun x => x.2.2) (fun x => zs.length - x.1) (0, v, H) ⟨by simp only; omega, hns⟩ rfl (by simp [Has, rd_s]) rfl ?_
  rintro ⟨j, w, H1⟩ ⟨hj, hw⟩
  simp only at hj hw
  by_cases hlt2 : j < zs.length
  · obtain ⟨z, hz⟩ : ∃ z, zs[j]? = some z := ⟨_, List.getElem?_eq_getElem hlt2⟩
    have hlt2' : (j : Int) < zs.length := by omega
    have hz1 := hz0.mono hw.pre
    have hzl := hb z (List.mem_of_getElem? hz)
    have hc2 := hcl j
    obtain ⟨w', H2, happ, hw'⟩ := hw.push ((hin z (List.mem_of_getElem? hz)).mono hw.pre) (by simp [lim]; omega)
    simp (maxSteps := 4000000) -implicitDefEqProofs -dsimp (disch := omega) only [↓AW_skip, ↓AW_ops, ↓AW_seq, ↓AW_cond, ↓AW_block, ↓AOps_nil, ↓AOps_pu, ↓AOps_ld, ↓AOps_ha, on_some, extK_false, condB_t, ↓then_normal, ↓inBlock_normal, pval, lval, hval_app, rd_S, rd_C, put_S, partA, eq_self, mk, List.foldl_cons, List.foldl_nil, List.replicate_succ, List.replicate_zero, List.set_cons_zero, List.set_cons_succ, List.getElem?_cons_zero, List.getElem?_cons_succ, List.drop_zero, List.take_succ_cons, List.take_nil, Option.getD_some, List.length_cons, List.length_nil, Nat.reduceAdd, Nat.reduceLeDiff, Nat.zero_add, bin_add, bin_lss, w64, if_true, if_false, Bool.false_eq_true, decide_true, true_and, hlt2', hz1.idx hlt2, hz1.ld0 hz 1 false (by decide), e0, happ]
    exact ⟨(j + 1, w', H2), ⟨hlt2, by rw [catZ_take hz]; exact hw'⟩, by simp [Has, rd_s], rfl, by simp only; omega⟩
  · have hlt2' : ¬ ((j : Int) < zs.length) := by omega
    rw [List.take_of_length_le (by omega)] at hw
    simp (maxSteps := 4000000) -implicitDefEqProofs -dsimp (disch := omega) only [↓AW_ops, ↓AW_seq, ↓AW_cond, ↓AW_exit, ↓AW_ret, ↓AOps_nil, ↓AOps_pu, on_some, condB_f, ↓then_normal, ↓then_exit, ↓inBlock_exit, ↓FinR_ret, pval, rd_S, put_S, resV, resL, eq_self, mk, List.foldl_cons, List.foldl_nil, List.replicate_succ, List.replicate_zero, List.set_cons_zero, List.set_cons_succ, List.getElem?_cons_zero, List.getElem?_cons_succ, Option.getD_some, bin_lss, if_true, decide_false, hlt2']
    rcases hw with hw | ⟨he, _⟩
    · exact ⟨_, _, gc_all, AccL.pre hw, AccL_ls hw e1_len⟩
    · rw [he] at hne; simp at hne
theorem ll_two (H : AHeap) (x y : AV × List Int) : Ls 1 e0 (H ++ [.cells true [x.1, y.1]]) (.sl 1 H.length 0 2 true) [x, y] := ⟨e0_len, by simp [slCells, cellsAt, e0]⟩
theorem two_in {H : AHeap} {o : AObj} {x y : AV} {xs ys : List Int} (hx : L1 H x xs) (hy : L1 H y ys) : ∀ z ∈ [(x, xs), (y, ys)], L1 (H ++ [o]) z.1 z.2 := fun z hz => by
  rcases List.mem_cons.1 hz with e | e
  · rw [e]; exact hx.mono (pre_app _ _)
  · rw [List.mem_singleton.1 e]; exact hy.mono (pre_app _ _)
theorem two_len {x y : AV} {k : Int} {ys : List Int} (h : ys.length ≤ 100) : ∀ z ∈ [(x, [k]), (y, ys)], z.2.length ≤ 100 := fun z hz => by
  rcases List.mem_cons.1 hz with e | e
  · rw [e]; simp
  · rw [List.mem_singleton.1 e]; exact h
theorem st_new {H : AHeap} {x : AV} (h : x.cells? = some [x]) : stA 1 (.ptr H.length 0) x (H ++ [.cells true [.nilS]]) = some (H ++ [.cells true [x]]) := by
  simp [stA, h, splice]
section
variable {P : Nat} {rs : List Rd} {ks : List Int} {u v : AV} {A : AHeap}
set_option maxRecDepth 20000 in
set_option maxHeartbeats 16000000 in
theorem s92 {a b c : Nat} {lv gv : AV} {L : List Int} {k : Int} (hu : L3 A u rs) (hn : Net P rs) (hO : Ord rs L) (hk : 0 ≤ k ∧ k ≤ (rs.length : Int) - 1) (h1 : ldA 2 true (.ptr a 0) A = some (.agg [I P, u])) (h2 : ldA 1 false (.ptr b 0) A = some lv) (h3 : ldA 1 false (.ptr c 0) A = some gv) (hL : L1 A lv L) (hG : L1 A gv (srt (grw (rdx rs) [] L))) :
    ACalls Try.prog 92 ([I k] ++ [.ptr a 0, .ptr b 0, .ptr c 0]) A (B (decide (nev P rs k))) A := by
  have hl14 := hn.l
  have hP7 := hn.p7
  rw [List.singleton_append, nev_dec hn hO hk]
  refine acalls hmix Try.func92 (by kernel_rfl) t92 4 rfl (by decide) ?_
  have h2k := ld_mono (pre_app A [AObj.cells true [I k]]) h2
  dsimp only [m92]
  simp (maxSteps := 4000000) -implicitDefEqProofs -dsimp (disch := omega) only [↓AW_ops, ↓AW_seq, ↓AOps_nil, ↓AOps_pu, ↓AOps_ld, ↓AOps_ha, ↓AOps_call, on_some, extK_app, ↓then_normal, pval, lval, hval_blds, rd_S, rd_C, put_S, cells_int, splice, fillA, repl, eq_self, List.replicate_succ, List.replicate_zero, List.set_cons_zero, List.set_cons_succ, List.getElem?_cons_zero, List.getElem?_cons_succ, List.drop_succ_cons, List.drop_nil, List.take_zero, Option.getD_some, map_c, map_n, List.length_cons, List.length_nil, Nat.reduceSub, Nat.reduceLeDiff, Nat.zero_add, List.cons_append, List.nil_append, List.append_nil, if_true, and_true, ↓AW_ops2, h1, h2, h2k, List.replicate_zero, repl]
  obtain ⟨hmn, hmd, hkm, hml⟩ := kfirst hn hO hk
  have hwn : Nos rs (without L k) := fun i hi => hO.nos i (mem_wo.1 hi).1
  have hwl := without_le L k
  rw [hO.len] at hwl
  have hpk := pre_app A [AObj.cells true [I k]]
  refine ⟨?_, ?_⟩
  · obtain ⟨r1, H1, c1, p1, hW⟩ := s63 (hL.mono hpk) (by rw [hO.len]; omega) (by rw [hO.len]; omega) k
    refine CallK.of c1 ?_
    have hc := Ls_cells hW
    have hpX := hpk.trans p1
    have hK := (L1_one A k).mono p1
    simp (maxSteps := 4000000) -implicitDefEqProofs -dsimp (disch := omega) only [↓AOps_ha, ↓AOps_call, on_some, extK_app, hval_blds, rd_S, put_S, cells_sl, splice, fillA, repl, eq_self, List.replicate_succ, List.replicate_zero, List.set_cons_zero, List.set_cons_succ, List.getElem?_cons_zero, List.getElem?_cons_succ, List.drop_zero, List.drop_succ_cons, List.drop_nil, List.take_zero, List.take_succ_cons, Option.getD_some, map_c, map_n, List.length_cons, List.length_nil, Nat.reduceAdd, Nat.reduceSub, Nat.reduceLeDiff, Nat.zero_add, List.cons_append, List.nil_append, List.append_nil, if_true, and_true, extK_of p1, hc, List.replicate_zero, repl]
    obtain ⟨r3, H3, c3, p3, hM⟩ := c_Concat (ll_two H1 (.sl 1 A.length 0 1 true, [k]) (r1, without L k)) (two_in hK hW) (by simp) (two_len (by omega)) (by simp [catZ])
    refine CallK.of c3 ?_
    have hcat : catZ [((.sl 1 A.length 0 1 true : AV), [k]), (r1, without L k)] = k :: without L k := by simp [catZ]
    rw [hcat] at hM
    have hpY := hpX.trans ((pre_app _ _).trans p3)
    simp (maxSteps := 4000000) -implicitDefEqProofs -dsimp (disch := omega) only [↓AOps_call, rd_S, put_S, List.replicate_succ, List.replicate_zero, List.set_cons_zero, List.set_cons_succ, List.getElem?_cons_zero, List.getElem?_cons_succ, Option.getD_some, map_c, map_n, Nat.reduceSub, List.cons_append, List.nil_append, extK_of p3]
    obtain ⟨r2, H2, c2, p2, hG2⟩ := c_grow (hu.mono hpY) hM hn hmn (by rw [List.length_cons]; omega)
    refine CallK.of c2 ?_
    have hp := hpY.trans p2
    have h1' := ld_mono hp h1
    have h3' := ld_mono hp h3
    have huH := hu.mono hp
    have hgn : Nos rs (srt (grw (rdx rs) [] (k :: without L k))) := fun i hi => grw_nos hmn i ((srt_perm _).mem_iff.1 hi)
    have hgn2 : Nos rs (srt (grw (rdx rs) [] L)) := fun i hi => grw_nos hO.nos i ((srt_perm _).mem_iff.1 hi)
    have hsm := grw_small hn hmn
    have hsm2 := grw_small hn hO.nos
    simp (maxSteps := 4000000) -implicitDefEqProofs -dsimp (disch := omega) only [↓AW_ops, ↓AW_seq, ↓AOps_nil, ↓AOps_pu, ↓AOps_ld, ↓AOps_call, on_some, extK_false, ↓then_normal, pval, lval, rd_S, put_S, List.replicate_succ, List.replicate_zero, List.set_cons_zero, List.set_cons_succ, List.getElem?_cons_zero, List.getElem?_cons_succ, Option.getD_some, map_c, map_n, Nat.reduceSub, List.cons_append, List.nil_append, h1']
    refine CallK.of (s60 huH hG2 hn hgn (by rw [srt_len]; omega)) ?_
    have htt : decide (Tree P (rdx rs) (srt (grw (rdx rs) [] (k :: without L k)))) = decide (Tree P (rdx rs) (grw (rdx rs) [] (k :: without L k))) := decide_eq_decide.2 ⟨fun h => h.perm (srt_perm _).symm, fun h => h.perm (srt_perm _)⟩
    rw [htt]
    by_cases ht : Tree P (rdx rs) (grw (rdx rs) [] (k :: without L k))
    · rw [decide_eq_true ht]
      simp (maxSteps := 4000000) -implicitDefEqProofs -dsimp (disch := omega) only [↓AOps_pu, ↓AOps_ld, ↓AOps_call, ↓AOps_guard, on_some, extK_same, guardB_ff, pval, lval, rd_S, put_S, List.replicate_succ, List.replicate_zero, List.set_cons_zero, List.set_cons_succ, List.getElem?_cons_zero, List.getElem?_cons_succ, Option.getD_some, map_c, map_n, Nat.reduceSub, List.cons_append, List.nil_append, Bool.not_true, h1']
      refine CallK.of (s79 huH hG2 hn hgn (by rw [srt_len]; omega)) ?_
      simp (maxSteps := 4000000) -implicitDefEqProofs -dsimp (disch := omega) only [↓AOps_ld, ↓AOps_call, ↓AOps_guard, on_some, extK_same, guardB_ff, lval, rd_S, put_S, List.replicate_succ, List.replicate_zero, List.set_cons_zero, List.set_cons_succ, List.getElem?_cons_zero, List.getElem?_cons_succ, Option.getD_some, map_c, map_n, Nat.reduceSub, List.cons_append, List.nil_append, h1', h3']
      refine CallK.of (s79 huH (hG.mono hp) hn hgn2 (by rw [srt_len]; omega)) ?_
      rw [cst_perm (srt_perm _), cst_perm (srt_perm _)]
      simp (maxSteps := 4000000) -implicitDefEqProofs -dsimp (disch := omega) only [↓AW_ret, ↓AOps_nil, ↓AOps_pu, ↓AOps_guard, on_some, extK_same, guardB_ff, ↓then_normal, ↓Fin_ret, pval, rd_S, rd_C, put_S, resV, resL, List.replicate_succ, List.replicate_zero, List.set_cons_zero, List.set_cons_succ, List.getElem?_cons_zero, List.getElem?_cons_succ, Option.getD_some, Nat.reduceSub, List.cons_append, List.nil_append, bin_gtr, if_false, Bool.false_eq_true, Bool.not_true]
      exact gc_val hp rfl
    · rw [decide_eq_false ht]
      simp (maxSteps := 4000000) -implicitDefEqProofs -dsimp (disch := omega) only [↓AW_ret, ↓AOps_nil, ↓AOps_pu, ↓AOps_guard, on_some, extK_same, guardB_tf, skipS_some, ↓then_normal, ↓Fin_ret, pval, rd_S, rd_C, put_S, resV, resL, eq_self, List.replicate_succ, List.replicate_zero, List.set_cons_zero, List.set_cons_succ, List.getElem?_cons_zero, List.getElem?_cons_succ, Option.getD_some, Nat.reduceSub, List.cons_append, List.nil_append, if_true, Bool.not_false]
      exact gc_val hp rfl
  · obtain ⟨r1, H1, c1, p1, hW⟩ := s63 hL (by rw [hO.len]; omega) (by rw [hO.len]; omega) k
    refine CallK.of c1 ?_
    have hc := Ls_cells hW
    have hK := L1_one H1 k
    have hpX := p1.trans (pre_app H1 [AObj.cells true [I k]])
    simp (maxSteps := 4000000) -implicitDefEqProofs -dsimp (disch := omega) only [↓AOps_ha, ↓AOps_call, on_some, extK_app, hval_blds, rd_S, put_S, cells_int, cells_sl, splice, fillA, repl, eq_self, List.replicate_succ, List.replicate_zero, List.set_cons_zero, List.set_cons_succ, List.getElem?_cons_zero, List.getElem?_cons_succ, List.drop_zero, List.drop_succ_cons, List.drop_nil, List.take_zero, List.take_succ_cons, Option.getD_some, map_c, map_n, List.length_cons, List.length_nil, Nat.reduceAdd, Nat.reduceSub, Nat.reduceLeDiff, Nat.zero_add, List.cons_append, List.nil_append, List.append_nil, if_true, and_true, extK_of p1, hc, List.replicate_zero, repl]
    obtain ⟨r3, H3, c3, p3, hM⟩ := c_Concat (ll_two (H1 ++ [AObj.cells true [I k]]) (.sl 1 H1.length 0 1 true, [k]) (r1, without L k)) (two_in hK (hW.mono (pre_app _ _))) (by simp) (two_len (by omega)) (by simp [catZ])
    refine CallK.of c3 ?_
    have hcat : catZ [((.sl 1 H1.length 0 1 true : AV), [k]), (r1, without L k)] = k :: without L k := by simp [catZ]
    rw [hcat] at hM
    have hpY := hpX.trans ((pre_app _ _).trans p3)
    simp (maxSteps := 4000000) -implicitDefEqProofs -dsimp (disch := omega) only [↓AOps_call, rd_S, put_S, List.replicate_succ, List.replicate_zero, List.set_cons_zero, List.set_cons_succ, List.getElem?_cons_zero, List.getElem?_cons_succ, Option.getD_some, map_c, map_n, Nat.reduceSub, List.cons_append, List.nil_append, extK_of p3]
    obtain ⟨r2, H2, c2, p2, hG2⟩ := c_grow (hu.mono hpY) hM hn hmn (by rw [List.length_cons]; omega)
    refine CallK.of c2 ?_
    have hp := hpY.trans p2
    have h1' := ld_mono hp h1
    have h3' := ld_mono hp h3
    have huH := hu.mono hp
    have hgn : Nos rs (srt (grw (rdx rs) [] (k :: without L k))) := fun i hi => grw_nos hmn i ((srt_perm _).mem_iff.1 hi)
    have hgn2 : Nos rs (srt (grw (rdx rs) [] L)) := fun i hi => grw_nos hO.nos i ((srt_perm _).mem_iff.1 hi)
    have hsm := grw_small hn hmn
    have hsm2 := grw_small hn hO.nos
    simp (maxSteps := 4000000) -implicitDefEqProofs -dsimp (disch := omega) only [↓AW_ops, ↓AW_seq, ↓AOps_nil, ↓AOps_pu, ↓AOps_ld, ↓AOps_call, on_some, extK_false, ↓then_normal, pval, lval, rd_S, put_S, List.replicate_succ, List.replicate_zero, List.set_cons_zero, List.set_cons_succ, List.getElem?_cons_zero, List.getElem?_cons_succ, Option.getD_some, map_c, map_n, Nat.reduceSub, List.cons_append, List.nil_append, h1']
    refine CallK.of (s60 huH hG2 hn hgn (by rw [srt_len]; omega)) ?_
    have htt : decide (Tree P (rdx rs) (srt (grw (rdx rs) [] (k :: without L k)))) = decide (Tree P (rdx rs) (grw (rdx rs) [] (k :: without L k))) := decide_eq_decide.2 ⟨fun h => h.perm (srt_perm _).symm, fun h => h.perm (srt_perm _)⟩
    rw [htt]
    by_cases ht : Tree P (rdx rs) (grw (rdx rs) [] (k :: without L k))
    · rw [decide_eq_true ht]
      simp (maxSteps := 4000000) -implicitDefEqProofs -dsimp (disch := omega) only [↓AOps_pu, ↓AOps_ld, ↓AOps_call, ↓AOps_guard, on_some, extK_same, guardB_ff, pval, lval, rd_S, put_S, List.replicate_succ, List.replicate_zero, List.set_cons_zero, List.set_cons_succ, List.getElem?_cons_zero, List.getElem?_cons_succ, Option.getD_some, map_c, map_n, Nat.reduceSub, List.cons_append, List.nil_append, Bool.not_true, h1']
      refine CallK.of (s79 huH hG2 hn hgn (by rw [srt_len]; omega)) ?_
      simp (maxSteps := 4000000) -implicitDefEqProofs -dsimp (disch := omega) only [↓AOps_ld, ↓AOps_call, ↓AOps_guard, on_some, extK_same, guardB_ff, lval, rd_S, put_S, List.replicate_succ, List.replicate_zero, List.set_cons_zero, List.set_cons_succ, List.getElem?_cons_zero, List.getElem?_cons_succ, Option.getD_some, map_c, map_n, Nat.reduceSub, List.cons_append, List.nil_append, h1', h3']
      refine CallK.of (s79 huH (hG.mono hp) hn hgn2 (by rw [srt_len]; omega)) ?_
      rw [cst_perm (srt_perm _), cst_perm (srt_perm _)]
      simp (maxSteps := 4000000) -implicitDefEqProofs -dsimp (disch := omega) only [↓AW_ret, ↓AOps_nil, ↓AOps_pu, ↓AOps_guard, on_some, extK_same, guardB_ff, ↓then_normal, ↓Fin_ret, pval, rd_S, rd_C, put_S, resV, resL, List.replicate_succ, List.replicate_zero, List.set_cons_zero, List.set_cons_succ, List.getElem?_cons_zero, List.getElem?_cons_succ, Option.getD_some, Nat.reduceSub, List.cons_append, List.nil_append, bin_gtr, if_false, Bool.false_eq_true, Bool.not_true]
      exact gc_val hp rfl
    · rw [decide_eq_false ht]
      simp (maxSteps := 4000000) -implicitDefEqProofs -dsimp (disch := omega) only [↓AW_ret, ↓AOps_nil, ↓AOps_pu, ↓AOps_guard, on_some, extK_same, guardB_tf, skipS_some, ↓then_normal, ↓Fin_ret, pval, rd_S, rd_C, put_S, resV, resL, eq_self, List.replicate_succ, List.replicate_zero, List.set_cons_zero, List.set_cons_succ, List.getElem?_cons_zero, List.getElem?_cons_succ, Option.getD_some, Nat.reduceSub, List.cons_append, List.nil_append, if_true, Bool.not_false]
      exact gc_val hp rfl
end
section
variable {Q : Int} {rs : List Rd} {ks : List Int} {u v : AV} {A : AHeap}
/-- The roads that all, or none, of the cheapest trees have. -/
noncomputable def alL (Q : Int) (rs : List Rd) : List Int := if vE Q rs = 0 then (nums rs).filter (fun i => decide (alw Q.toNat rs i)) else []
noncomputable def neL (Q : Int) (rs : List Rd) : List Int := if vE Q rs = 0 then (nums rs).filter (fun i => decide (nev Q.toNat rs i)) else []
set_option maxRecDepth 20000 in
set_option maxHeartbeats 16000000 in
theorem s45 (hu : L3 A u rs) (hW : W Q) : ∃ r H, ACalls Try.prog 45 [.agg [I Q, u]] A (.tuple [r, I (vE Q rs)]) H ∧ A <+: H ∧ L1 H r (alL Q rs) := by
  have key : ∃ t H, ACalls Try.prog 45 [.agg [I Q, u]] A t H ∧ ∃ r, t = .tuple [r, I (vE Q rs)] ∧ A <+: H ∧ L1 H r (alL Q rs) := by
    refine acallsR hmix Try.func45 (by kernel_rfl) t45 _ 1 rfl (by decide) ?_
    have hpA := pre_app A [AObj.cells true [I Q, u]]
    have hla : ldA 2 true (.ptr A.length 0) (A ++ [AObj.cells true [I Q, u]]) = some (.agg [I Q, u]) := by simp [ldA, partA]
    have hu1 := hu.mono hpA
    dsimp only [m45]
    simp (maxSteps := 4000000) -implicitDefEqProofs -dsimp (disch := omega) only [↓AW_ops, ↓AW_seq, ↓AOps_nil, ↓AOps_pu, ↓AOps_ld, ↓AOps_ha, ↓AOps_call, on_some, extK_app, ↓then_normal, pval, lval, hval_newv, rd_S, rd_C, put_S, cells_agg, List.replicate_succ, List.replicate_zero, List.set_cons_zero, List.set_cons_succ, List.getElem?_cons_zero, List.getElem?_cons_succ, Option.getD_some, map_c, map_n, Nat.reduceSub, List.cons_append, List.nil_append, hla]
    refine CallK.of (s28 hu1 hW) ?_
    by_cases h0 : vE Q rs = 0
    case neg =>
      have hA0 : alL Q rs = [] := if_neg h0
      rw [hA0]
      simp (maxSteps := 4000000) -implicitDefEqProofs -dsimp (disch := omega) only [↓AW_ops, ↓AW_seq, ↓AW_cond, ↓AW_ret, ↓AOps_nil, ↓AOps_pu, on_some, extK_same, condB_t, ↓then_normal, ↓then_ret, ↓FinR_ret, pval, rd_S, rd_C, put_S, resV, resL, List.replicate_succ, List.replicate_zero, List.set_cons_zero, List.set_cons_succ, List.getElem?_cons_zero, List.getElem?_cons_succ, Option.getD_some, Nat.reduceSub, List.cons_append, List.nil_append, bin_neq, decide_true, not_false_eq_true, h0]
      exact ⟨_, _, gc_all, _, rfl, hpA, L1_nil _⟩
    have hn := vE_0.1 h0
    obtain ⟨P, rfl⟩ := hn.nat
    have hl14 := hn.l
    have hP7 := hn.p7
    have hA1 : alL P rs = (nums rs).filter (fun i => decide (alw P rs i)) := if_pos h0
    rw [h0, hA1]
    simp (maxSteps := 4000000) -implicitDefEqProofs -dsimp (disch := omega) only [↓AW_skip, ↓AW_ops, ↓AW_seq, ↓AW_cond, ↓AOps_nil, ↓AOps_pu, ↓AOps_ld, ↓AOps_call, on_some, extK_same, condB_f, ↓then_normal, pval, lval, rd_S, rd_C, put_S, eq_self, List.replicate_succ, List.replicate_zero, List.set_cons_zero, List.set_cons_succ, List.getElem?_cons_zero, List.getElem?_cons_succ, Option.getD_some, map_c, map_n, Nat.reduceSub, List.cons_append, List.nil_append, bin_neq, decide_false, not_true_eq_false, hla]
    generalize A ++ [AObj.cells true [I P, u]] = A1 at hpA hla hu1 ⊢
    obtain ⟨r1, H1, c1, p1, L, hL, hO⟩ := c_all hu1 hn
    refine CallK.of c1 ?_
    have hst := st_new (H := H1) (Ls_cells hL)
    have hp2 := p1.trans (pre_app H1 [AObj.cells true [r1]])
    have hL2 := hL.mono (pre_app H1 [AObj.cells true [r1]])
    have hlb : ldA 1 false (.ptr H1.length 0) (H1 ++ [AObj.cells true [r1]]) = some r1 := by simp [ldA, partA]
    have hla2 := ld_mono hp2 hla
    have hu2 := hu1.mono hp2
    simp (maxSteps := 4000000) -implicitDefEqProofs -dsimp (disch := omega) only [↓AW_ops, ↓AW_seq, ↓AOps_nil, ↓AOps_ld, ↓AOps_ha, ↓AOps_call, on_some, extK_false, extK_app, ↓then_normal, lval, hval_st, hval_newv, rd_S, rd_C, put_S, putS_none, cells_nilS, List.replicate_succ, List.replicate_zero, List.set_cons_zero, List.set_cons_succ, List.getElem?_cons_zero, List.getElem?_cons_succ, Option.getD_some, Option.map_some, map_c, map_n, Nat.reduceSub, List.cons_append, List.nil_append, hst, hla2, hlb]
    generalize H1 ++ [AObj.cells true [r1]] = H2 at hp2 hL2 hlb hla2 hu2 ⊢
    obtain ⟨r2, H3, c3, p3, hG⟩ := c_grow hu2 hL2 hn hO.nos (by rw [hO.len]; omega)
    refine CallK.of c3 ?_
    have hst2 := st_new (H := H3) (Ls_cells hG)
    have hp4 := p3.trans (pre_app H3 [AObj.cells true [r2]])
    have hlc : ldA 1 false (.ptr H3.length 0) (H3 ++ [AObj.cells true [r2]]) = some r2 := by simp [ldA, partA]
    have hla4 := ld_mono hp4 hla2
    have hlb4 := ld_mono hp4 hlb
    have hu4 := hu2.mono hp4
    have hL4 := hL2.mono hp4
    have hG4 := hG.mono (pre_app H3 [AObj.cells true [r2]])
    simp (maxSteps := 4000000) -implicitDefEqProofs -dsimp (disch := omega) only [↓AW_ops, ↓AW_seq, ↓AOps_nil, ↓AOps_pu, ↓AOps_ld, ↓AOps_ha, ↓AOps_call, on_some, extK_false, extK_app, ↓then_normal, pval, lval, hval_st, hval_newv, rd_S, rd_C, put_S, putS_none, cells_nilS, List.replicate_succ, List.replicate_zero, List.set_cons_zero, List.set_cons_succ, List.getElem?_cons_zero, List.getElem?_cons_succ, Option.getD_some, Option.map_some, map_c, map_n, Nat.reduceSub, List.cons_append, List.nil_append, hst2, hla4]
    generalize H3 ++ [AObj.cells true [r2]] = H4 at hp4 hlc hla4 hlb4 hu4 hL4 hG4 ⊢
    obtain ⟨r, H5, c5, p5, hR⟩ := s89 (P := P) hu4 (by omega) 90 [.ptr A.length 0, .ptr H1.length 0, .ptr H3.length 0] (fun i => decide (alw P rs i)) (fun H hH i i0 i1 => s90 (hu4.mono hH) hn hO ⟨i0, by omega⟩ (ld_mono hH hla4) (ld_mono hH hlb4) (ld_mono hH hlc) (hL4.mono hH) (hG4.mono hH))
    refine CallK.of c5 ?_
    simp (maxSteps := 4000000) -implicitDefEqProofs -dsimp (disch := omega) only [↓AW_ret, ↓AOps_nil, ↓AOps_pu, on_some, extK_false, ↓then_normal, ↓FinR_ret, pval, rd_S, rd_C, put_S, putS_none, resV, resL, List.replicate_succ, List.replicate_zero, List.set_cons_zero, List.set_cons_succ, List.getElem?_cons_zero, List.getElem?_cons_succ, Option.getD_some, Nat.reduceSub, List.cons_append, List.nil_append]
    exact ⟨_, _, gc_all, _, rfl, hpA.trans (hp2.trans (hp4.trans p5)), hR⟩
  obtain ⟨t, H, h1, r, rfl, h2⟩ := key
  exact ⟨r, H, h1, h2⟩
set_option maxRecDepth 20000 in
set_option maxHeartbeats 16000000 in
theorem s47 (hu : L3 A u rs) (hW : W Q) : ∃ r H, ACalls Try.prog 47 [.agg [I Q, u]] A (.tuple [r, I (vE Q rs)]) H ∧ A <+: H ∧ L1 H r (neL Q rs) := by
  have key : ∃ t H, ACalls Try.prog 47 [.agg [I Q, u]] A t H ∧ ∃ r, t = .tuple [r, I (vE Q rs)] ∧ A <+: H ∧ L1 H r (neL Q rs) := by
    refine acallsR hmix Try.func47 (by kernel_rfl) t47 _ 1 rfl (by decide) ?_
    have hpA := pre_app A [AObj.cells true [I Q, u]]
    have hla : ldA 2 true (.ptr A.length 0) (A ++ [AObj.cells true [I Q, u]]) = some (.agg [I Q, u]) := by simp [ldA, partA]
    have hu1 := hu.mono hpA
    dsimp only [m47]
    simp (maxSteps := 4000000) -implicitDefEqProofs -dsimp (disch := omega) only [↓AW_ops, ↓AW_seq, ↓AOps_nil, ↓AOps_pu, ↓AOps_ld, ↓AOps_ha, ↓AOps_call, on_some, extK_app, ↓then_normal, pval, lval, hval_newv, rd_S, rd_C, put_S, cells_agg, List.replicate_succ, List.replicate_zero, List.set_cons_zero, List.set_cons_succ, List.getElem?_cons_zero, List.getElem?_cons_succ, Option.getD_some, map_c, map_n, Nat.reduceSub, List.cons_append, List.nil_append, hla]
    refine CallK.of (s28 hu1 hW) ?_
    by_cases h0 : vE Q rs = 0
    case neg =>
      have hA0 : neL Q rs = [] := if_neg h0
      rw [hA0]
      simp (maxSteps := 4000000) -implicitDefEqProofs -dsimp (disch := omega) only [↓AW_ops, ↓AW_seq, ↓AW_cond, ↓AW_ret, ↓AOps_nil, ↓AOps_pu, on_some, extK_same, condB_t, ↓then_normal, ↓then_ret, ↓FinR_ret, pval, rd_S, rd_C, put_S, resV, resL, List.replicate_succ, List.replicate_zero, List.set_cons_zero, List.set_cons_succ, List.getElem?_cons_zero, List.getElem?_cons_succ, Option.getD_some, Nat.reduceSub, List.cons_append, List.nil_append, bin_neq, decide_true, not_false_eq_true, h0]
      exact ⟨_, _, gc_all, _, rfl, hpA, L1_nil _⟩
    have hn := vE_0.1 h0
    obtain ⟨P, rfl⟩ := hn.nat
    have hl14 := hn.l
    have hP7 := hn.p7
    have hA1 : neL P rs = (nums rs).filter (fun i => decide (nev P rs i)) := if_pos h0
    rw [h0, hA1]
    simp (maxSteps := 4000000) -implicitDefEqProofs -dsimp (disch := omega) only [↓AW_skip, ↓AW_ops, ↓AW_seq, ↓AW_cond, ↓AOps_nil, ↓AOps_pu, ↓AOps_ld, ↓AOps_call, on_some, extK_same, condB_f, ↓then_normal, pval, lval, rd_S, rd_C, put_S, eq_self, List.replicate_succ, List.replicate_zero, List.set_cons_zero, List.set_cons_succ, List.getElem?_cons_zero, List.getElem?_cons_succ, Option.getD_some, map_c, map_n, Nat.reduceSub, List.cons_append, List.nil_append, bin_neq, decide_false, not_true_eq_false, hla]
    generalize A ++ [AObj.cells true [I P, u]] = A1 at hpA hla hu1 ⊢
    obtain ⟨r1, H1, c1, p1, L, hL, hO⟩ := c_all hu1 hn
    refine CallK.of c1 ?_
    have hst := st_new (H := H1) (Ls_cells hL)
    have hp2 := p1.trans (pre_app H1 [AObj.cells true [r1]])
    have hL2 := hL.mono (pre_app H1 [AObj.cells true [r1]])
    have hlb : ldA 1 false (.ptr H1.length 0) (H1 ++ [AObj.cells true [r1]]) = some r1 := by simp [ldA, partA]
    have hla2 := ld_mono hp2 hla
    have hu2 := hu1.mono hp2
    simp (maxSteps := 4000000) -implicitDefEqProofs -dsimp (disch := omega) only [↓AW_ops, ↓AW_seq, ↓AOps_nil, ↓AOps_ld, ↓AOps_ha, ↓AOps_call, on_some, extK_false, extK_app, ↓then_normal, lval, hval_st, hval_newv, rd_S, rd_C, put_S, putS_none, cells_nilS, List.replicate_succ, List.replicate_zero, List.set_cons_zero, List.set_cons_succ, List.getElem?_cons_zero, List.getElem?_cons_succ, Option.getD_some, Option.map_some, map_c, map_n, Nat.reduceSub, List.cons_append, List.nil_append, hst, hla2, hlb]
    generalize H1 ++ [AObj.cells true [r1]] = H2 at hp2 hL2 hlb hla2 hu2 ⊢
    obtain ⟨r2, H3, c3, p3, hG⟩ := c_grow hu2 hL2 hn hO.nos (by rw [hO.len]; omega)
    refine CallK.of c3 ?_
    have hst2 := st_new (H := H3) (Ls_cells hG)
    have hp4 := p3.trans (pre_app H3 [AObj.cells true [r2]])
    have hlc : ldA 1 false (.ptr H3.length 0) (H3 ++ [AObj.cells true [r2]]) = some r2 := by simp [ldA, partA]
    have hla4 := ld_mono hp4 hla2
    have hlb4 := ld_mono hp4 hlb
    have hu4 := hu2.mono hp4
    have hL4 := hL2.mono hp4
    have hG4 := hG.mono (pre_app H3 [AObj.cells true [r2]])
    simp (maxSteps := 4000000) -implicitDefEqProofs -dsimp (disch := omega) only [↓AW_ops, ↓AW_seq, ↓AOps_nil, ↓AOps_pu, ↓AOps_ld, ↓AOps_ha, ↓AOps_call, on_some, extK_false, extK_app, ↓then_normal, pval, lval, hval_st, hval_newv, rd_S, rd_C, put_S, putS_none, cells_nilS, List.replicate_succ, List.replicate_zero, List.set_cons_zero, List.set_cons_succ, List.getElem?_cons_zero, List.getElem?_cons_succ, Option.getD_some, Option.map_some, map_c, map_n, Nat.reduceSub, List.cons_append, List.nil_append, hst2, hla4]
    generalize H3 ++ [AObj.cells true [r2]] = H4 at hp4 hlc hla4 hlb4 hu4 hL4 hG4 ⊢
    obtain ⟨r, H5, c5, p5, hR⟩ := s89 (P := P) hu4 (by omega) 92 [.ptr A.length 0, .ptr H1.length 0, .ptr H3.length 0] (fun i => decide (nev P rs i)) (fun H hH i i0 i1 => s92 (hu4.mono hH) hn hO ⟨i0, by omega⟩ (ld_mono hH hla4) (ld_mono hH hlb4) (ld_mono hH hlc) (hL4.mono hH) (hG4.mono hH))
    refine CallK.of c5 ?_
    simp (maxSteps := 4000000) -implicitDefEqProofs -dsimp (disch := omega) only [↓AW_ret, ↓AOps_nil, ↓AOps_pu, on_some, extK_false, ↓then_normal, ↓FinR_ret, pval, rd_S, rd_C, put_S, putS_none, resV, resL, List.replicate_succ, List.replicate_zero, List.set_cons_zero, List.set_cons_succ, List.getElem?_cons_zero, List.getElem?_cons_succ, Option.getD_some, Nat.reduceSub, List.cons_append, List.nil_append]
    exact ⟨_, _, gc_all, _, rfl, hpA.trans (hp2.trans (hp4.trans p5)), hR⟩
  obtain ⟨t, H, h1, r, rfl, h2⟩ := key
  exact ⟨r, H, h1, h2⟩
end
end Go.Proofs.Ytkgfcdpckfhknaa

namespace Go.Proofs.Ytkgfcdpckfhknaa
open Go Go.Eng
section
variable {P : Nat} {rs : List Rd} {ks : List Int} {u v : AV} {A : AHeap}
end
section
variable {Q : Int} {rs : List Rd} {ks : List Int} {u v : AV} {A : AHeap}
theorem fl_len (hl : ¬ ((100 : Int) < rs.length)) (Q : Int) : (alL Q rs).length ≤ 1000000 ∧ (neL Q rs).length ≤ 1000000 := by
  have h1 : ((nums rs).filter (fun i => decide (alw Q.toNat rs i))).length ≤ rs.length := filt_len _ _
  have h2 : ((nums rs).filter (fun i => decide (nev Q.toNat rs i))).length ≤ rs.length := filt_len _ _
  unfold alL neL
  split
  · omega
  · simp
end
end Go.Proofs.Ytkgfcdpckfhknaa

namespace Go.Proofs.Ytkgfcdpckfhknaa
open Go Go.Eng
theorem wo_perm {k : Int} : ∀ {L : List Int}, L.Nodup → k ∈ L → L.Perm (k :: without L k)
  | [], _, h => by simp at h
  | x :: L, hn, h => by
    rw [List.nodup_cons] at hn
    by_cases hx : x = k
    · subst hx
      have : without (x :: L) x = L := by
        unfold Go.Proofs.Ytkgfcdpckfhknaa.without
        rw [List.filter_cons]
        simp only [decide_true, Bool.not_true, Bool.false_eq_true, if_false]
        rw [List.filter_eq_self]
        intro y hy
        have : ¬ y = x := fun e => hn.1 (by rw [← e]; exact hy)
        simp [this]
      rw [this]
    · have hk : k ∈ L := by
        rcases List.mem_cons.1 h with e | e
        · exact absurd e.symm hx
        · exact e
      have : without (x :: L) k = x :: without L k := by
        unfold Go.Proofs.Ytkgfcdpckfhknaa.without
        rw [List.filter_cons]
        simp [hx]
      rw [this]
      exact ((wo_perm hn.2 hk).cons x).trans (List.Perm.swap k x _)
section
variable {P : Nat} {rs : List Rd} {k : Int}
theorem mem_but {i : Int} : i ∈ but rs k ↔ (0 ≤ i ∧ i < (rs.length : Int)) ∧ ¬ i = k := by
  unfold but
  rw [List.mem_filter, mem_plc, decide_eq_true_eq]
theorem rg_low (hn : Net P rs) (hk : 0 ≤ k ∧ k ≤ (rs.length : Int) - 1) (h : wct rs k ≤ rgC rs k) : ¬ cnT rs (but rs k) (wct rs k - 1) (rdx rs k).1 (rdx rs k).2.1 := by
  intro hc
  have hne : ¬ (rdx rs k).1 = (rdx rs k).2.1 := (hn.r _ (rdx_at hk.1 hk.2).2).2.1
  have hwb := hn.wb hk.1 hk.2
  have hbb : ∀ i ∈ but rs k, wct rs i ≤ 99 := fun i hi => by
    have := (mem_but.1 hi).1
    exact (hn.wb this.1 (by omega)).2
  unfold rgC at h
  cases hb : bt rs (but rs k) (rdx rs k).1 (rdx rs k).2.1 with
  | none => exact (bt_none' hbb hb).2 _ hc
  | some d =>
    rw [hb] at h
    simp only [Option.getD_some] at h
    rcases bt_spec hb with ⟨e, _⟩ | ⟨_, hd, _, hmin⟩
    · exact hne e
    · by_cases h0 : 0 ≤ wct rs k - 1
      · have := hmin _ hc h0
        omega
      · unfold cnT at hc
        have : (upTo (wct rs) (but rs k) (wct rs k - 1)) = [] := by
          rw [List.eq_nil_iff_forall_not_mem]
          intro i hi
          have h1 := (mem_but.1 (mem_upTo.1 hi).1).1
          have h2 := (mem_upTo.1 hi).2
          have := hn.wb h1.1 (by omega)
          omega
        rw [this] at hc
        exact hne hc.nil
theorem rg_high (hn : Net P rs) (hk : 0 ≤ k ∧ k ≤ (rs.length : Int) - 1) (h : rgC rs k < wct rs k) : ∃ d, d < wct rs k ∧ cnT rs (but rs k) d (rdx rs k).1 (rdx rs k).2.1 := by
  have hne : ¬ (rdx rs k).1 = (rdx rs k).2.1 := (hn.r _ (rdx_at hk.1 hk.2).2).2.1
  have hwb := hn.wb hk.1 hk.2
  unfold rgC at h
  cases hb : bt rs (but rs k) (rdx rs k).1 (rdx rs k).2.1 with
  | none =>
    rw [hb] at h
    simp only [Option.getD_none] at h
    omega
  | some d =>
    rw [hb] at h
    simp only [Option.getD_some] at h
    rcases bt_spec hb with ⟨e, _⟩ | ⟨_, hd, hc, _⟩
    · exact absurd e hne
    · exact ⟨d, h, hc⟩
/-- An order in which a road comes before all that cost as much. -/
theorem ord_first (hn : Net P rs) (hk : 0 ≤ k ∧ k ≤ (rs.length : Int) - 1) : ∃ F G, Ord rs (F ++ k :: G) ∧ (∀ i ∈ F, i ∈ but rs k ∧ wct rs i ≤ wct rs k - 1) := by
  have hO := ordL_ord rs
  have hkL : k ∈ ordL rs := hO.mem.2 hk
  have hws := hO.s.sublist (List.filter_sublist (p := fun x => !decide (x = k)) (l := ordL rs))
  refine ⟨(without (ordL rs) k).filter (fun i => decide (wct rs i ≤ wct rs k - 1)), (without (ordL rs) k).filter (fun i => !decide (wct rs i ≤ wct rs k - 1)), ⟨?_, ?_⟩, fun i hi => ?_⟩
  · refine List.perm_middle.trans ?_
    refine ((List.filter_append_perm (fun i => decide (wct rs i ≤ wct rs k - 1)) (without (ordL rs) k)).cons k).trans ?_
    exact (wo_perm hO.nodup hkL).symm.trans hO.p
  · rw [List.pairwise_append]
    refine ⟨hws.sublist List.filter_sublist, ?_, fun a ha b hb => ?_⟩
    · rw [List.pairwise_cons]
      refine ⟨fun b hb => ?_, hws.sublist List.filter_sublist⟩
      have := (List.mem_filter.1 hb).2
      simp at this
      omega
    · have h1 := (List.mem_filter.1 ha).2
      rw [decide_eq_true_eq] at h1
      rcases List.mem_cons.1 hb with e | e
      · rw [e]; omega
      · have h2 := (List.mem_filter.1 e).2
        simp at h2
        omega
  · have h1 := List.mem_filter.1 hi
    rw [decide_eq_true_eq] at h1
    have h2 := mem_wo.1 h1.1
    have h3 := hO.mem.1 h2.1
    exact ⟨mem_but.2 ⟨by omega, h2.2⟩, h1.2⟩
theorem nev_rg (hn : Net P rs) (hj : Jbl P rs) (hk : 0 ≤ k ∧ k ≤ (rs.length : Int) - 1) : nev P rs k ↔ rgC rs k < wct rs k := by
  constructor
  · intro h
    refine Classical.byContradiction (fun hc => ?_)
    have hlow := rg_low hn hk (by omega)
    obtain ⟨F, G, hO, hF⟩ := ord_first hn hk
    have hP := hO.nos.inP hn
    have hFP : ∀ i ∈ F, InP P (rdx rs i) := fun i hi => hP i (List.mem_append_left _ hi)
    have hkg : k ∈ grw (rdx rs) [] (F ++ k :: G) := by
      rw [grw_append, grw]
      have hnc : ¬ Cn ((grw (rdx rs) [] F).map (rdx rs)) (rdx rs k).1 (rdx rs k).2.1 := fun hcc => by
        rw [(grw_cn hFP).1] at hcc
        exact hlow (map_sub (fun i hi => mem_upTo.2 (hF i hi)) hcc)
      rw [if_neg hnc]
      obtain ⟨X, h1, _⟩ := grw_more (R := rdx rs) G (grw (rdx rs) [] F ++ [k])
      rw [h1]
      simp
    have ht := (jbl_grw hn hO).2 hj
    have ht2 : Tree P (rdx rs) (grw (rdx rs) [] (F ++ k :: G)) := ht.perm (srt_perm _).symm
    exact h _ (srt_chl hn (grw_nos hO.nos) (hO.nodup.sublist (grw_sub _)) ht2 (by rw [best_of hn hO]; exact Int.le_refl _)) ((srt_perm _).mem_iff.2 hkg)
  · intro h T hT hkT
    obtain ⟨d, hd, hcn⟩ := rg_high hn hk h
    obtain ⟨hok, hTr, hc⟩ := (mem_chl' hn).1 hT
    have hno := (noB_iff hn hok hTr).2 hc
    have hTn := okS_nos hok
    have hp := wo_perm (okS_nodup hok) hkT
    have hIk : Ind P (rdx rs k :: (without T k).map (rdx rs)) := hTr.ind.perm ((hp.symm).map (rdx rs))
    have hPk := hn.inP hk.1 hk.2
    have hRP : ∀ i ∈ without T k, InP P (rdx rs i) := fun i hi => (hTn.inP hn) i (mem_wo.1 hi).1
    have hIr : Ind P ((without T k).map (rdx rs)) := ind_sub (T := k :: without T k) (List.sublist_cons_self _ _) (fun i hi => by
      rcases List.mem_cons.1 hi with e | e
      · rw [e]; exact hPk
      · exact hRP i e) hIk
    have hnk := (Ind.cons hPk hIr).1 hIk
    -- some cheap road crosses
    have hf : ∃ f, f ∈ upTo (wct rs) (but rs k) d ∧ ¬ Cn ((without T k).map (rdx rs)) (rdx rs f).1 (rdx rs f).2.1 := by
      refine Classical.byContradiction (fun hcc => hnk ?_)
      have hall : ∀ f ∈ upTo (wct rs) (but rs k) d, Cn ((without T k).map (rdx rs)) (rdx rs f).1 (rdx rs f).2.1 := fun f hf => Classical.byContradiction (fun hh => hcc ⟨f, hf, hh⟩)
      have gen : ∀ q, Cn ((upTo (wct rs) (but rs k) d).map (rdx rs)) (rdx rs k).1 q → Cn ((without T k).map (rdx rs)) (rdx rs k).1 q := by
        intro q hq
        induction hq with
        | refl => exact .refl _
        | step _ e he hr ih =>
          obtain ⟨i, hi, rfl⟩ := List.mem_map.1 he
          rcases hr with ⟨rfl, rfl⟩ | ⟨rfl, rfl⟩
          · exact ih.trans (hall i hi)
          · exact ih.trans (hall i hi).symm
      exact gen _ hcn
    obtain ⟨f, hfm, hfn⟩ := hf
    have hfb := mem_but.1 (mem_upTo.1 hfm).1
    have hfd := (mem_upTo.1 hfm).2
    have hfv : 0 ≤ f ∧ f ≤ (rs.length : Int) - 1 := by omega
    have hfT : f ∉ T := fun hh => hfn (Cn.one (List.mem_map_of_mem (mem_wo.2 ⟨hh, hfb.2⟩)))
    have hPf := hn.inP hfv.1 hfv.2
    have hTf : Tree P (rdx rs) (f :: without T k) := by
      refine tree_of_ind ?_ ((Ind.cons hPf hIr).2 hfn)
      have := hTr.1
      rw [hp.length_eq] at this
      exact this
    have hsw : swp P rs T k f := ⟨hkT, hfT, by
      rw [mk_srt hok hfv hfT]
      exact hTf.perm ((srt_perm _).trans List.perm_append_comm)⟩
    have := hno k f hkT hfv hsw
    omega
end
section
variable {P : Nat} {rs : List Rd} {k c : Int}
end
end Go.Proofs.Ytkgfcdpckfhknaa

namespace Go.Proofs.Ytkgfcdpckfhknaa
open Go Go.Eng
section
variable {Q : Int} {rs qs : List Rd} {ks : List Int} {u v : AV} {A : AHeap} {k c : Int}
end
end Go.Proofs.Ytkgfcdpckfhknaa

namespace Go.Proofs.Ytkgfcdpckfhknaa
open Go Go.Eng
section
variable {Q : Int} {rs qs : List Rd} {ks : List Int} {u v : AV} {A : AHeap} {k c : Int}
end
end Go.Proofs.Ytkgfcdpckfhknaa

namespace Go.Proofs.Ytkgfcdpckfhknaa
open Go Go.Eng
/-- The net of two roads. -/
def lit : List Rd := [(0, 1, 7), (1, 0, 5)]
theorem lit_net : Net 2 lit := by
  refine ⟨by decide, by decide, by decide, fun r hr => ?_⟩
  rcases List.mem_cons.1 hr with e | e
  · rw [e]; decide
  · rw [List.mem_singleton.1 e]; decide
theorem lit_worst : wC 2 lit 0 1 = 5 ∧ wB 2 lit 0 1 = true ∧ pE 2 lit 0 1 = 0 := by
  have hp : pE 2 lit 0 1 = 0 := pE_0.2 ⟨lit_net, by decide, by decide⟩
  have hb : bt lit (nums lit) 0 1 = some 5 := by
    refine bt_at (by decide) (by decide) (by decide) ?_ ?_
    · rw [cnT_all]
      exact (Cn.one (e := ((1, 0, 5) : Rd)) (by decide)).symm
    · rw [cnT_all]
      have : lit.filter (fun r => decide (r.2.2 ≤ (5 : Int) - 1)) = [] := by decide
      rw [this]
      intro h
      have := h.nil
      omega
  refine ⟨?_, ?_, hp⟩
  · unfold wC
    rw [if_pos hp, hb]
    rfl
  · unfold wB
    rw [hp, hb]
    rfl
section
variable {P : Nat} {rs : List Rd} {a b : Int}
theorem cnt_pos (hn : Net P rs) : (0 < tN P rs) ↔ Jbl P rs := by
  have h : tN P rs = (trees P rs).length := by
    unfold tN
    rw [if_pos (vE_0.2 hn), Int.toNat_natCast]
  rw [h, jbl_trees hn]
  constructor
  · intro h e
    rw [e] at h
    simp at h
  · intro h
    have := List.length_pos_iff.2 h
    omega
theorem all_len (hn : Net P rs) (hj : ¬ Jbl P rs) : (alL P rs).length = rs.length ∧ (neL P rs).length = rs.length := by
  have h1 : alL P rs = (nums rs).filter (fun i => decide (alw P rs i)) := by
    unfold alL
    rw [if_pos (vE_0.2 hn), Int.toNat_natCast]
  have h2 : neL P rs = (nums rs).filter (fun i => decide (nev P rs i)) := by
    unfold neL
    rw [if_pos (vE_0.2 hn), Int.toNat_natCast]
  rw [h1, h2]
  constructor
  · rw [List.filter_eq_self.2 (fun i _ => decide_eq_true (alw_no hn hj).1)]
    exact plc_len _
  · rw [List.filter_eq_self.2 (fun i _ => decide_eq_true (alw_no hn hj).2)]
    exact plc_len _
theorem mem_alL (hn : Net P rs) {i : Int} (hi : 0 ≤ i ∧ i < (rs.length : Int)) : (i ∈ alL P rs ↔ alw P rs i) ∧ (i ∈ neL P rs ↔ nev P rs i) := by
  unfold alL neL
  rw [if_pos (vE_0.2 hn), if_pos (vE_0.2 hn), Int.toNat_natCast, List.mem_filter, List.mem_filter, mem_plc, decide_eq_true_eq, decide_eq_true_eq]
  exact ⟨⟨fun h => h.2, fun h => ⟨hi, h⟩⟩, ⟨fun h => h.2, fun h => ⟨hi, h⟩⟩⟩
theorem jbl_cn (hn : Net P rs) (hj : Jbl P rs) (ha : 0 ≤ a ∧ a < P) (hb : 0 ≤ b ∧ b < P) : cnT rs (nums rs) 99 a b := by
  have h1 := (comps_one (P := P) (S := (nums rs).map (rdx rs)) (by omega)).1 hj
  have h2 : Cn ((nums rs).map (rdx rs)) a b := (h1 a ha.1 ha.2).symm.trans (h1 b hb.1 hb.2)
  refine map_sub (fun k hk => ?_) h2
  rw [mem_upTo]
  have := mem_plc.1 hk
  exact ⟨hk, (hn.wb this.1 (by omega)).2⟩
theorem jbl_worst (hn : Net P rs) (hj : Jbl P rs) (h0 : pE P rs a b = 0) : wB P rs a b = true ∧ (0 ≤ wC P rs a b ∧ wC P rs a b ≤ 99) ∧ cnT rs (nums rs) (wC P rs a b) a b ∧ (wC P rs a b = 0 ∨ ¬ cnT rs (nums rs) (wC P rs a b - 1) a b) := by
  obtain ⟨_, ha, hb⟩ := pE_0.1 h0
  have hcn := jbl_cn hn hj (a := a) (b := b) (by omega) (by omega)
  have hw : wB P rs a b = true := by
    unfold wB
    rw [h0]
    cases hbt : bt rs (nums rs) a b with
    | none => exact absurd hcn ((bt_none' (fun k hk => (hn.wb (mem_plc.1 hk).1 (by have := (mem_plc.1 hk).2; omega)).2) hbt).2 _)
    | some d => rfl
  obtain ⟨_, hbt⟩ := wB_t hw
  refine ⟨hw, ?_⟩
  rcases bt_spec hbt with ⟨e, h⟩ | ⟨_, h, hc, hmin⟩
  · rw [h, e]
    exact ⟨by omega, .refl _, .inl rfl⟩
  · refine ⟨h, hc, ?_⟩
    by_cases hz : wC P rs a b = 0
    · exact .inl hz
    · refine .inr (fun hcc => ?_)
      have := hmin _ hcc (by omega)
      omega
end
end Go.Proofs.Ytkgfcdpckfhknaa

namespace Go.Proofs.Ytkgfcdpckfhknaa
open Go Go.Eng
/-- selion/seliontop.TopRoads [loop [2, 3, 8, 13, 15, 21]] -/
def m16 : MFun := ⟨295, [2, 3], [.mov (.s 4)],
 .seq (.ops [⟨(some 2), some (.junk), none, false, .pu (.bnew (.s 0))⟩,
   ⟨(some 3), some (.junk), none, false, .pu (.bnew (.s 1))⟩,
   ⟨(some 4), some undefA, none, false, .pu (.mov (.c (.bool false)))⟩])
 (.seq (.seq (.ops [⟨(some 34), some undefA, none, false, .pu (.build [.int .i64 0, .int .i64 0, .int .i64 0] [(0, 1, (.c (.int .i64 0))), (1, 1, (.c (.int .i64 1))), (2, 1, (.c (.int .i64 7)))])⟩,
   ⟨(some 35), some undefA, none, false, .pu (.build [.int .i64 0, .int .i64 0, .int .i64 0] [(0, 1, (.c (.int .i64 1))), (1, 1, (.c (.int .i64 0))), (2, 1, (.c (.int .i64 5)))])⟩,
   ⟨(some 36), some undefA, none, false, .ha (.blds 3 2 [.int .i64 0, .int .i64 0, .int .i64 0] [(0, 3, (.s 34)), (3, 3, (.s 35))])⟩,
   ⟨(some 37), some undefA, none, false, .pu (.build [.int .i64 0, .nilS] [(0, 1, (.c (.int .i64 2))), (1, 1, (.s 36))])⟩,
   ⟨(some 38), some undefA, none, false, .call 25 [(.s 37), (.c (.int .i64 0)), (.c (.int .i64 1))]⟩,
   ⟨(some 33), some undefA, none, false, .pu (.mov (.s 38))⟩,
   ⟨(some 39), some undefA, none, false, .pu (.extr 0 (.s 33))⟩,
   ⟨(some 40), some undefA, none, false, .pu (.extr 1 (.s 33))⟩,
   ⟨(some 41), some undefA, none, false, .pu (.extr 2 (.s 33))⟩,
   ⟨(some 5), some undefA, none, false, .pu (.mov (.s 39))⟩,
   ⟨(some 6), some undefA, none, false, .pu (.mov (.s 40))⟩,
   ⟨(some 7), some undefA, none, false, .pu (.mov (.s 41))⟩])
 (.seq (.ops [⟨(some 42), some undefA, none, false, .pu (.mov (.s 7))⟩,
   ⟨(some 43), some undefA, none, false, .pu (.bin .neq (.s 42) (.c (.int .i64 0)))⟩,
   ⟨(some 44), some undefA, none, false, .pu (.mov (.s 43))⟩,
   ⟨(some 45), some undefA, (some (44, false)), false, .pu (.mov (.s 6))⟩,
   ⟨(some 46), some undefA, (some (44, false)), false, .pu (.not (.s 45))⟩,
   ⟨(some 47), some undefA, none, false, .pu (.pick (.s 44) (.c (.bool true)) (.s 46))⟩,
   ⟨(some 48), some undefA, none, false, .pu (.mov (.s 47))⟩,
   ⟨(some 49), some undefA, (some (48, false)), false, .pu (.mov (.s 5))⟩,
   ⟨(some 50), some undefA, (some (48, false)), false, .pu (.bin .neq (.s 49) (.c (.int .i64 5)))⟩,
   ⟨(some 51), some undefA, none, false, .pu (.pick (.s 48) (.c (.bool true)) (.s 50))⟩])
 (.cond (.s 51) (.seq (.ops [⟨(some 4), some undefA, none, false, .pu (.mov (.c (.bool false)))⟩])
  (.ret))
 (.skip))))
 (.seq (.seq (.ops [⟨(some 52), some undefA, none, false, .pu (.bget none 2 0 2 true)⟩,
   ⟨(some 53), some undefA, none, false, .call 17 [(.s 52)]⟩])
 (.cond (.s 53) (.seq (.ops [⟨(some 4), some undefA, none, false, .pu (.mov (.c (.bool true)))⟩])
  (.ret))
 (.skip)))
 (.seq (.ops [⟨(some 55), some undefA, none, false, .pu (.bget none 2 0 2 true)⟩,
   ⟨(some 56), some undefA, none, false, .call 21 [(.s 55)]⟩,
   ⟨(some 54), some undefA, none, false, .pu (.mov (.s 56))⟩,
   ⟨(some 57), some undefA, none, false, .pu (.extr 0 (.s 54))⟩,
   ⟨(some 58), some undefA, none, false, .pu (.extr 1 (.s 54))⟩,
   ⟨(some 59), some undefA, none, false, .pu (.extr 2 (.s 54))⟩,
   ⟨(some 8), some undefA, none, false, .pu (.mov (.s 57))⟩,
   ⟨(some 9), some undefA, none, false, .pu (.mov (.s 58))⟩,
   ⟨(some 10), some undefA, none, false, .pu (.mov (.s 59))⟩])
 (.seq (.seq (.ops [⟨(some 60), some undefA, none, false, .pu (.mov (.s 10))⟩,
   ⟨(some 61), some undefA, none, false, .pu (.bin .neq (.s 60) (.c (.int .i64 0)))⟩])
 (.cond (.s 61) (.seq (.ops [⟨(some 62), some undefA, none, false, .pu (.bget none 2 0 2 true)⟩,
    ⟨(some 63), some undefA, none, false, .call 28 [(.s 62)]⟩,
    ⟨(some 64), some undefA, none, false, .pu (.mov (.s 10))⟩,
    ⟨(some 65), some undefA, none, false, .pu (.bin .eql (.s 63) (.s 64))⟩,
    ⟨(some 4), some undefA, none, false, .pu (.mov (.s 65))⟩])
  (.ret))
 (.skip)))
 (.seq (.ops [⟨(some 67), some undefA, none, false, .pu (.bget none 2 0 2 true)⟩,
   ⟨(some 68), some undefA, none, false, .call 43 [(.s 67)]⟩,
   ⟨(some 66), some undefA, none, false, .pu (.mov (.s 68))⟩,
   ⟨(some 69), some undefA, none, false, .pu (.extr 0 (.s 66))⟩,
   ⟨(some 70), some undefA, none, false, .pu (.extr 1 (.s 66))⟩,
   ⟨(some 11), some undefA, none, false, .pu (.mov (.s 69))⟩,
   ⟨(some 12), some undefA, none, false, .pu (.mov (.s 70))⟩])
 (.seq (.ops [⟨(some 72), some undefA, none, false, .pu (.bget none 2 0 2 true)⟩,
   ⟨(some 73), some undefA, none, false, .call 45 [(.s 72)]⟩,
   ⟨(some 71), some undefA, none, false, .pu (.mov (.s 73))⟩,
   ⟨(some 74), some undefA, none, false, .pu (.extr 0 (.s 71))⟩,
   ⟨(some 75), some undefA, none, false, .pu (.extr 1 (.s 71))⟩,
   ⟨(some 13), some undefA, none, false, .pu (.mov (.s 74))⟩,
   ⟨(some 14), some undefA, none, false, .pu (.mov (.s 75))⟩])
 (.seq (.ops [⟨(some 77), some undefA, none, false, .pu (.bget none 2 0 2 true)⟩,
   ⟨(some 78), some undefA, none, false, .call 47 [(.s 77)]⟩,
   ⟨(some 76), some undefA, none, false, .pu (.mov (.s 78))⟩,
   ⟨(some 79), some undefA, none, false, .pu (.extr 0 (.s 76))⟩,
   ⟨(some 80), some undefA, none, false, .pu (.extr 1 (.s 76))⟩,
   ⟨(some 15), some undefA, none, false, .pu (.mov (.s 79))⟩,
   ⟨(some 16), some undefA, none, false, .pu (.mov (.s 80))⟩])
 (.seq (.seq (.ops [⟨(some 81), some undefA, none, false, .pu (.mov (.s 12))⟩,
   ⟨(some 82), some undefA, none, false, .pu (.bin .neq (.s 81) (.c (.int .i64 0)))⟩,
   ⟨(some 83), some undefA, none, false, .pu (.mov (.s 82))⟩,
   ⟨(some 84), some undefA, (some (83, false)), false, .pu (.mov (.s 14))⟩,
   ⟨(some 85), some undefA, (some (83, false)), false, .pu (.bin .neq (.s 84) (.c (.int .i64 0)))⟩,
   ⟨(some 86), some undefA, none, false, .pu (.pick (.s 83) (.c (.bool true)) (.s 85))⟩,
   ⟨(some 87), some undefA, none, false, .pu (.mov (.s 86))⟩,
   ⟨(some 88), some undefA, (some (87, false)), false, .pu (.mov (.s 16))⟩,
   ⟨(some 89), some undefA, (some (87, false)), false, .pu (.bin .neq (.s 88) (.c (.int .i64 0)))⟩,
   ⟨(some 90), some undefA, none, false, .pu (.pick (.s 87) (.c (.bool true)) (.s 89))⟩,
   ⟨(some 91), some undefA, none, false, .pu (.mov (.s 90))⟩,
   ⟨(some 92), some undefA, (some (91, false)), false, .pu (.mov (.s 9))⟩,
   ⟨(some 93), some undefA, (some (91, false)), false, .pu (.mov (.s 11))⟩,
   ⟨(some 94), some undefA, (some (91, false)), false, .pu (.bin .gtr (.s 93) (.c (.int .i64 0)))⟩,
   ⟨(some 95), some undefA, (some (91, false)), false, .pu (.eqb true (.s 92) (.s 94))⟩,
   ⟨(some 96), some undefA, none, false, .pu (.pick (.s 91) (.c (.bool true)) (.s 95))⟩])
 (.cond (.s 96) (.seq (.ops [⟨(some 4), some undefA, none, false, .pu (.mov (.c (.bool false)))⟩])
  (.ret))
 (.skip)))
 (.seq (.seq (.ops [⟨(some 97), some undefA, none, false, .pu (.mov (.s 9))⟩,
   ⟨(some 98), some undefA, none, false, .pu (.not (.s 97))⟩])
 (.cond (.s 98) (.seq (.ops [⟨(some 99), some undefA, none, false, .pu (.mov (.s 13))⟩,
    ⟨(some 100), some undefA, none, false, .pu (.len (.s 99))⟩,
    ⟨(some 101), some undefA, none, false, .pu (.badr none 2)⟩,
    ⟨(some 102), some undefA, none, false, .pu (.bget (some 101) 2 1 1 false)⟩,
    ⟨(some 103), some undefA, none, false, .pu (.len (.s 102))⟩,
    ⟨(some 104), some undefA, none, false, .pu (.bin .eql (.s 100) (.s 103))⟩,
    ⟨(some 105), some undefA, none, false, .pu (.mov (.s 104))⟩,
    ⟨(some 106), some undefA, (some (105, true)), false, .pu (.mov (.s 15))⟩,
    ⟨(some 107), some undefA, (some (105, true)), false, .pu (.len (.s 106))⟩,
    ⟨(some 108), some undefA, (some (105, true)), false, .pu (.badr none 2)⟩,
    ⟨(some 109), some undefA, (some (105, true)), false, .pu (.bget (some 108) 2 1 1 false)⟩,
    ⟨(some 110), some undefA, (some (105, true)), false, .pu (.len (.s 109))⟩,
    ⟨(some 111), some undefA, (some (105, true)), false, .pu (.bin .eql (.s 107) (.s 110))⟩,
    ⟨(some 112), some undefA, none, false, .pu (.pick (.s 105) (.s 111) (.c (.bool false)))⟩,
    ⟨(some 4), some undefA, none, false, .pu (.mov (.s 112))⟩])
  (.ret))
 (.skip)))
 (.seq (.ops [⟨(some 114), some undefA, none, false, .pu (.bget none 2 0 2 true)⟩,
   ⟨(some 115), some undefA, none, false, .pu (.mov (.s 8))⟩,
   ⟨(some 116), some undefA, none, false, .call 33 [(.s 114), (.s 115)]⟩,
   ⟨(some 113), some undefA, none, false, .pu (.mov (.s 116))⟩,
   ⟨(some 117), some undefA, none, false, .pu (.extr 0 (.s 113))⟩,
   ⟨(some 118), some undefA, none, false, .pu (.extr 1 (.s 113))⟩,
   ⟨(some 17), some undefA, none, false, .pu (.mov (.s 117))⟩,
   ⟨(some 12), some undefA, none, false, .pu (.mov (.s 118))⟩])
 (.seq (.ops [⟨(some 120), some undefA, none, false, .pu (.bget none 2 0 2 true)⟩,
   ⟨(some 121), some undefA, none, false, .pu (.mov (.s 8))⟩,
   ⟨(some 122), some undefA, none, false, .call 41 [(.s 120), (.s 121)]⟩,
   ⟨(some 119), some undefA, none, false, .pu (.mov (.s 122))⟩,
   ⟨(some 123), some undefA, none, false, .pu (.extr 0 (.s 119))⟩,
   ⟨(some 124), some undefA, none, false, .pu (.extr 1 (.s 119))⟩,
   ⟨(some 125), some undefA, none, false, .pu (.extr 2 (.s 119))⟩,
   ⟨(some 126), some undefA, none, false, .pu (.extr 3 (.s 119))⟩,
   ⟨(some 18), some undefA, none, false, .pu (.mov (.s 123))⟩,
   ⟨(some 19), some undefA, none, false, .pu (.mov (.s 124))⟩,
   ⟨(some 20), some undefA, none, false, .pu (.mov (.s 125))⟩,
   ⟨(some 14), some undefA, none, false, .pu (.mov (.s 126))⟩])
 (.seq (.seq (.ops [⟨(some 127), some undefA, none, false, .pu (.mov (.s 12))⟩,
   ⟨(some 128), some undefA, none, false, .pu (.bin .neq (.s 127) (.c (.int .i64 0)))⟩,
   ⟨(some 129), some undefA, none, false, .pu (.mov (.s 128))⟩,
   ⟨(some 130), some undefA, (some (129, false)), false, .pu (.mov (.s 17))⟩,
   ⟨(some 131), some undefA, (some (129, false)), false, .pu (.not (.s 130))⟩,
   ⟨(some 132), some undefA, none, false, .pu (.pick (.s 129) (.c (.bool true)) (.s 131))⟩,
   ⟨(some 133), some undefA, none, false, .pu (.mov (.s 132))⟩,
   ⟨(some 134), some undefA, (some (133, false)), false, .pu (.mov (.s 14))⟩,
   ⟨(some 135), some undefA, (some (133, false)), false, .pu (.bin .neq (.s 134) (.c (.int .i64 0)))⟩,
   ⟨(some 136), some undefA, none, false, .pu (.pick (.s 133) (.c (.bool true)) (.s 135))⟩,
   ⟨(some 137), some undefA, none, false, .pu (.mov (.s 136))⟩,
   ⟨(some 138), some undefA, (some (137, false)), false, .pu (.mov (.s 20))⟩,
   ⟨(some 139), some undefA, none, false, .pu (.pick (.s 137) (.c (.bool true)) (.s 138))⟩])
 (.cond (.s 139) (.seq (.ops [⟨(some 4), some undefA, none, false, .pu (.mov (.c (.bool false)))⟩])
  (.ret))
 (.skip)))
 (.seq (.seq (.ops [⟨(some 21), some undefA, none, false, .pu (.mov (.c (.int .i64 0)))⟩])
 (.block 0 (.loop (.seq (.seq (.ops [⟨(some 140), some undefA, none, false, .pu (.mov (.s 21))⟩,
     ⟨(some 141), some undefA, none, false, .pu (.badr none 2)⟩,
     ⟨(some 142), some undefA, none, false, .pu (.bget (some 141) 2 1 1 false)⟩,
     ⟨(some 143), some undefA, none, false, .pu (.len (.s 142))⟩,
     ⟨(some 144), some undefA, none, false, .pu (.bin .lss (.s 140) (.s 143))⟩])
   (.cond (.s 144) (.skip)
   (.exit 0)))
   (.seq (.block 1 (.seq (.ops [⟨(some 148), some undefA, none, false, .pu (.bget none 2 0 2 true)⟩,
      ⟨(some 149), some undefA, none, false, .pu (.mov (.s 21))⟩,
      ⟨(some 150), some undefA, none, false, .call 19 [(.s 148), (.s 149)]⟩,
      ⟨(some 147), some undefA, none, false, .pu (.mov (.s 150))⟩,
      ⟨(some 151), some undefA, none, false, .pu (.extr 0 (.s 147))⟩,
      ⟨(some 152), some undefA, none, false, .pu (.extr 1 (.s 147))⟩,
      ⟨(some 153), some undefA, none, false, .pu (.extr 2 (.s 147))⟩,
      ⟨(some 22), some undefA, none, false, .pu (.mov (.s 151))⟩,
      ⟨(some 23), some undefA, none, false, .pu (.mov (.s 152))⟩,
      ⟨(some 24), some undefA, none, false, .pu (.mov (.s 153))⟩])
    (.seq (.ops [⟨(some 154), some undefA, none, false, .pu (.mov (.s 24))⟩,
      ⟨(some 155), some undefA, none, false, .pu (.bin .neq (.s 154) (.c (.int .i64 0)))⟩,
      ⟨(some 156), some undefA, none, false, .pu (.mov (.s 155))⟩,
      ⟨(some 157), some undefA, (some (156, false)), false, .pu (.mov (.s 23))⟩,
      ⟨(some 158), some undefA, (some (156, false)), false, .pu (.not (.s 157))⟩,
      ⟨(some 159), some undefA, none, false, .pu (.pick (.s 156) (.c (.bool true)) (.s 158))⟩,
      ⟨(some 160), some undefA, none, false, .pu (.mov (.s 159))⟩,
      ⟨(some 161), some undefA, (some (160, false)), true, .pu (.mov (.s 15))⟩,
      ⟨(some 162), some undefA, (some (160, false)), true, .pu (.mov (.s 21))⟩,
      ⟨(some 163), some undefA, (some (160, false)), true, .call 51 [(.s 161), (.s 162)]⟩,
      ⟨(some 164), some undefA, (some (160, false)), false, .pu (.badr none 2)⟩,
      ⟨(some 165), some undefA, (some (160, false)), false, .pu (.bget (some 164) 2 1 1 false)⟩,
      ⟨(some 166), some undefA, (some (160, false)), false, .pu (.mov (.s 21))⟩,
      ⟨(some 167), some undefA, (some (160, false)), false, .pu (.idx 3 (.s 165) (.s 166))⟩,
      ⟨(some 168), some undefA, (some (160, false)), false, .pu (.fad 2 (.s 167))⟩,
      ⟨(some 169), some undefA, (some (160, false)), true, .ld (.ld 1 false (.s 168))⟩,
      ⟨(some 170), some undefA, (some (160, false)), true, .pu (.mov (.s 22))⟩,
      ⟨(some 171), some undefA, (some (160, false)), false, .pu (.bin .gtr (.s 169) (.s 170))⟩,
      ⟨(some 172), some undefA, (some (160, false)), false, .pu (.eqb true (.s 163) (.s 171))⟩,
      ⟨(some 173), some undefA, none, false, .pu (.pick (.s 160) (.c (.bool true)) (.s 172))⟩,
      ⟨(some 174), some undefA, none, false, .pu (.mov (.s 173))⟩,
      ⟨(some 175), some undefA, (some (174, false)), false, .pu (.mov (.s 8))⟩,
      ⟨(some 176), some undefA, (some (174, false)), false, .pu (.mov (.s 21))⟩,
      ⟨(some 177), some undefA, (some (174, false)), false, .call 51 [(.s 175), (.s 176)]⟩,
      ⟨(some 178), some undefA, (some (174, false)), false, .pu (.mov (.s 177))⟩,
      ⟨(some 179), some undefA, (some (178, true)), false, .pu (.mov (.s 15))⟩,
      ⟨(some 180), some undefA, (some (178, true)), false, .pu (.mov (.s 21))⟩,
      ⟨(some 181), some undefA, (some (178, true)), false, .call 51 [(.s 179), (.s 180)]⟩,
      ⟨(some 182), some undefA, (some (174, false)), false, .pu (.pick (.s 178) (.s 181) (.c (.bool false)))⟩,
      ⟨(some 183), some undefA, none, false, .pu (.pick (.s 174) (.c (.bool true)) (.s 182))⟩,
      ⟨(some 184), some undefA, none, false, .pu (.mov (.s 183))⟩,
      ⟨(some 185), some undefA, (some (184, false)), false, .pu (.mov (.s 13))⟩,
      ⟨(some 186), some undefA, (some (184, false)), false, .pu (.mov (.s 21))⟩,
      ⟨(some 187), some undefA, (some (184, false)), false, .call 51 [(.s 185), (.s 186)]⟩,
      ⟨(some 188), some undefA, (some (184, false)), false, .pu (.mov (.s 187))⟩,
      ⟨(some 189), some undefA, (some (188, true)), false, .pu (.mov (.s 8))⟩,
      ⟨(some 190), some undefA, (some (188, true)), false, .pu (.mov (.s 21))⟩,
      ⟨(some 191), some undefA, (some (188, true)), false, .call 51 [(.s 189), (.s 190)]⟩,
      ⟨(some 192), some undefA, (some (188, true)), false, .pu (.not (.s 191))⟩,
      ⟨(some 193), some undefA, (some (184, false)), false, .pu (.pick (.s 188) (.s 192) (.c (.bool false)))⟩,
      ⟨(some 194), some undefA, none, false, .pu (.pick (.s 184) (.c (.bool true)) (.s 193))⟩])
    (.cond (.s 194) (.seq (.ops [⟨(some 4), some undefA, none, false, .pu (.mov (.c (.bool false)))⟩])
     (.ret))
    (.skip)))))
   (.ops [⟨(some 145), some undefA, none, false, .pu (.mov (.s 21))⟩,
     ⟨(some 146), some undefA, none, false, .pu (.bin .add (.s 145) (.c (.int .i64 1)))⟩,
     ⟨(some 21), some undefA, none, false, .pu (.mov (.s 146))⟩]))))))
 (.seq (.ops [⟨(some 196), some undefA, none, false, .pu (.bget none 2 0 2 true)⟩,
   ⟨(some 197), some undefA, none, false, .pu (.badr none 3)⟩,
   ⟨(some 198), some undefA, none, false, .pu (.bget (some 197) 3 0 1 false)⟩,
   ⟨(some 199), some undefA, none, false, .pu (.badr none 3)⟩,
   ⟨(some 200), some undefA, none, false, .pu (.bget (some 199) 3 1 1 false)⟩,
   ⟨(some 201), some undefA, none, false, .call 25 [(.s 196), (.s 198), (.s 200)]⟩,
   ⟨(some 195), some undefA, none, false, .pu (.mov (.s 201))⟩,
   ⟨(some 202), some undefA, none, false, .pu (.extr 0 (.s 195))⟩,
   ⟨(some 203), some undefA, none, false, .pu (.extr 1 (.s 195))⟩,
   ⟨(some 204), some undefA, none, false, .pu (.extr 2 (.s 195))⟩,
   ⟨(some 25), some undefA, none, false, .pu (.mov (.s 202))⟩,
   ⟨(some 26), some undefA, none, false, .pu (.mov (.s 203))⟩,
   ⟨(some 10), some undefA, none, false, .pu (.mov (.s 204))⟩])
 (.seq (.seq (.ops [⟨(some 205), some undefA, none, false, .pu (.mov (.s 10))⟩,
   ⟨(some 206), some undefA, none, false, .pu (.bin .neq (.s 205) (.c (.int .i64 0)))⟩])
 (.cond (.s 206) (.seq (.ops [⟨(some 207), some undefA, none, false, .pu (.mov (.s 26))⟩,
    ⟨(some 208), some undefA, none, false, .pu (.not (.s 207))⟩,
    ⟨(some 4), some undefA, none, false, .pu (.mov (.s 208))⟩])
  (.ret))
 (.skip)))
 (.seq (.ops [⟨(some 210), some undefA, none, false, .pu (.bget none 2 0 2 true)⟩,
   ⟨(some 211), some undefA, none, false, .pu (.badr none 3)⟩,
   ⟨(some 212), some undefA, none, false, .pu (.bget (some 211) 3 0 1 false)⟩,
   ⟨(some 213), some undefA, none, false, .pu (.badr none 3)⟩,
   ⟨(some 214), some undefA, none, false, .pu (.bget (some 213) 3 1 1 false)⟩,
   ⟨(some 215), some undefA, none, false, .call 36 [(.s 210), (.s 212), (.s 214)]⟩,
   ⟨(some 209), some undefA, none, false, .pu (.mov (.s 215))⟩,
   ⟨(some 216), some undefA, none, false, .pu (.extr 0 (.s 209))⟩,
   ⟨(some 217), some undefA, none, false, .pu (.extr 1 (.s 209))⟩,
   ⟨(some 218), some undefA, none, false, .pu (.extr 2 (.s 209))⟩,
   ⟨(some 27), some undefA, none, false, .pu (.mov (.s 216))⟩,
   ⟨(some 28), some undefA, none, false, .pu (.mov (.s 217))⟩,
   ⟨(some 12), some undefA, none, false, .pu (.mov (.s 218))⟩])
 (.seq (.seq (.ops [⟨(some 219), some undefA, none, false, .pu (.mov (.s 26))⟩,
   ⟨(some 220), some undefA, none, false, .pu (.not (.s 219))⟩,
   ⟨(some 221), some undefA, none, false, .pu (.mov (.s 220))⟩,
   ⟨(some 222), some undefA, (some (221, false)), false, .pu (.mov (.s 12))⟩,
   ⟨(some 223), some undefA, (some (221, false)), false, .pu (.bin .neq (.s 222) (.c (.int .i64 0)))⟩,
   ⟨(some 224), some undefA, none, false, .pu (.pick (.s 221) (.c (.bool true)) (.s 223))⟩,
   ⟨(some 225), some undefA, none, false, .pu (.mov (.s 224))⟩,
   ⟨(some 226), some undefA, (some (225, false)), false, .pu (.mov (.s 28))⟩,
   ⟨(some 227), some undefA, (some (225, false)), false, .pu (.not (.s 226))⟩,
   ⟨(some 228), some undefA, none, false, .pu (.pick (.s 225) (.c (.bool true)) (.s 227))⟩])
 (.cond (.s 228) (.seq (.ops [⟨(some 4), some undefA, none, false, .pu (.mov (.c (.bool false)))⟩])
  (.ret))
 (.skip)))
 (.seq (.ops [⟨(some 230), some undefA, none, false, .pu (.bget none 2 0 2 true)⟩,
   ⟨(some 231), some undefA, none, false, .pu (.badr none 3)⟩,
   ⟨(some 232), some undefA, none, false, .pu (.bget (some 231) 3 0 1 false)⟩,
   ⟨(some 233), some undefA, none, false, .pu (.badr none 3)⟩,
   ⟨(some 234), some undefA, none, false, .pu (.bget (some 233) 3 1 1 false)⟩,
   ⟨(some 235), some undefA, none, false, .pu (.mov (.s 27))⟩,
   ⟨(some 236), some undefA, none, false, .call 30 [(.s 230), (.s 232), (.s 234), (.s 235)]⟩,
   ⟨(some 229), some undefA, none, false, .pu (.mov (.s 236))⟩,
   ⟨(some 237), some undefA, none, false, .pu (.extr 0 (.s 229))⟩,
   ⟨(some 238), some undefA, none, false, .pu (.extr 1 (.s 229))⟩,
   ⟨(some 29), some undefA, none, false, .pu (.mov (.s 237))⟩,
   ⟨(some 12), some undefA, none, false, .pu (.mov (.s 238))⟩])
 (.seq (.ops [⟨(some 240), some undefA, none, false, .pu (.bget none 2 0 2 true)⟩,
   ⟨(some 241), some undefA, none, false, .pu (.badr none 3)⟩,
   ⟨(some 242), some undefA, none, false, .pu (.bget (some 241) 3 0 1 false)⟩,
   ⟨(some 243), some undefA, none, false, .pu (.badr none 3)⟩,
   ⟨(some 244), some undefA, none, false, .pu (.bget (some 243) 3 1 1 false)⟩,
   ⟨(some 245), some undefA, none, false, .pu (.mov (.s 25))⟩,
   ⟨(some 246), some undefA, none, false, .call 39 [(.s 240), (.s 242), (.s 244), (.s 245)]⟩,
   ⟨(some 239), some undefA, none, false, .pu (.mov (.s 246))⟩,
   ⟨(some 247), some undefA, none, false, .pu (.extr 0 (.s 239))⟩,
   ⟨(some 248), some undefA, none, false, .pu (.extr 1 (.s 239))⟩,
   ⟨(some 249), some undefA, none, false, .pu (.extr 2 (.s 239))⟩,
   ⟨(some 30), some undefA, none, false, .pu (.mov (.s 247))⟩,
   ⟨(some 31), some undefA, none, false, .pu (.mov (.s 248))⟩,
   ⟨(some 14), some undefA, none, false, .pu (.mov (.s 249))⟩])
 (.seq (.seq (.ops [⟨(some 250), some undefA, none, false, .pu (.mov (.s 12))⟩,
   ⟨(some 251), some undefA, none, false, .pu (.bin .neq (.s 250) (.c (.int .i64 0)))⟩,
   ⟨(some 252), some undefA, none, false, .pu (.mov (.s 251))⟩,
   ⟨(some 253), some undefA, (some (252, false)), false, .pu (.mov (.s 29))⟩,
   ⟨(some 254), some undefA, (some (252, false)), false, .pu (.mov (.s 25))⟩,
   ⟨(some 255), some undefA, (some (252, false)), false, .pu (.bin .neq (.s 253) (.s 254))⟩,
   ⟨(some 256), some undefA, none, false, .pu (.pick (.s 252) (.c (.bool true)) (.s 255))⟩,
   ⟨(some 257), some undefA, none, false, .pu (.mov (.s 256))⟩,
   ⟨(some 258), some undefA, (some (257, false)), false, .pu (.mov (.s 14))⟩,
   ⟨(some 259), some undefA, (some (257, false)), false, .pu (.bin .neq (.s 258) (.c (.int .i64 0)))⟩,
   ⟨(some 260), some undefA, none, false, .pu (.pick (.s 257) (.c (.bool true)) (.s 259))⟩,
   ⟨(some 261), some undefA, none, false, .pu (.mov (.s 260))⟩,
   ⟨(some 262), some undefA, (some (261, false)), false, .pu (.mov (.s 31))⟩,
   ⟨(some 263), some undefA, none, false, .pu (.pick (.s 261) (.c (.bool true)) (.s 262))⟩])
 (.cond (.s 263) (.seq (.ops [⟨(some 4), some undefA, none, false, .pu (.mov (.c (.bool false)))⟩])
  (.ret))
 (.skip)))
 (.seq (.seq (.ops [⟨(some 264), some undefA, none, false, .pu (.mov (.s 25))⟩,
   ⟨(some 265), some undefA, none, false, .pu (.bin .eql (.s 264) (.c (.int .i64 0)))⟩])
 (.cond (.s 265) (.seq (.ops [⟨(some 4), some undefA, none, false, .pu (.mov (.c (.bool true)))⟩])
  (.ret))
 (.skip)))
 (.seq (.ops [⟨(some 267), some undefA, none, false, .pu (.bget none 2 0 2 true)⟩,
   ⟨(some 268), some undefA, none, false, .pu (.badr none 3)⟩,
   ⟨(some 269), some undefA, none, false, .pu (.bget (some 268) 3 0 1 false)⟩,
   ⟨(some 270), some undefA, none, false, .pu (.badr none 3)⟩,
   ⟨(some 271), some undefA, none, false, .pu (.bget (some 270) 3 1 1 false)⟩,
   ⟨(some 272), some undefA, none, false, .pu (.mov (.s 25))⟩,
   ⟨(some 273), some undefA, none, false, .pu (.bin .sub (.s 272) (.c (.int .i64 1)))⟩,
   ⟨(some 274), some undefA, none, false, .call 39 [(.s 267), (.s 269), (.s 271), (.s 273)]⟩,
   ⟨(some 266), some undefA, none, false, .pu (.mov (.s 274))⟩,
   ⟨(some 275), some undefA, none, false, .pu (.extr 0 (.s 266))⟩,
   ⟨(some 276), some undefA, none, false, .pu (.extr 1 (.s 266))⟩,
   ⟨(some 277), some undefA, none, false, .pu (.extr 2 (.s 266))⟩,
   ⟨(some 32), some undefA, none, false, .pu (.mov (.s 275))⟩,
   ⟨(some 31), some undefA, none, false, .pu (.mov (.s 276))⟩,
   ⟨(some 12), some undefA, none, false, .pu (.mov (.s 277))⟩])
 (.seq (.ops [⟨(some 278), some undefA, none, false, .pu (.mov (.s 12))⟩,
   ⟨(some 279), some undefA, none, false, .pu (.bin .eql (.s 278) (.c (.int .i64 0)))⟩,
   ⟨(some 280), some undefA, none, false, .pu (.mov (.s 279))⟩,
   ⟨(some 281), some undefA, (some (280, true)), false, .pu (.mov (.s 31))⟩,
   ⟨(some 282), some undefA, none, false, .pu (.pick (.s 280) (.s 281) (.c (.bool false)))⟩,
   ⟨(some 283), some undefA, none, false, .pu (.mov (.s 282))⟩,
   ⟨(some 284), some undefA, (some (283, true)), false, .pu (.bget none 2 0 2 true)⟩,
   ⟨(some 285), some undefA, (some (283, true)), false, .pu (.badr none 3)⟩,
   ⟨(some 286), some undefA, (some (283, true)), false, .pu (.bget (some 285) 3 0 1 false)⟩,
   ⟨(some 287), some undefA, (some (283, true)), false, .pu (.badr none 3)⟩,
   ⟨(some 288), some undefA, (some (283, true)), false, .pu (.bget (some 287) 3 1 1 false)⟩,
   ⟨(some 289), some undefA, (some (283, true)), false, .pu (.mov (.s 25))⟩,
   ⟨(some 290), some undefA, (some (283, true)), false, .pu (.bin .sub (.s 289) (.c (.int .i64 1)))⟩,
   ⟨(some 291), some undefA, (some (283, true)), false, .pu (.mov (.s 32))⟩,
   ⟨(some 292), some undefA, (some (283, true)), false, .call 37 [(.s 284), (.s 286), (.s 288), (.s 290), (.s 291)]⟩,
   ⟨(some 293), some undefA, (some (283, true)), false, .pu (.bin .eql (.s 292) (.c (.int .i64 0)))⟩,
   ⟨(some 294), some undefA, none, false, .pu (.pick (.s 283) (.s 293) (.c (.bool false)))⟩,
   ⟨(some 4), some undefA, none, false, .pu (.mov (.s 294))⟩])
 (.ret))))))))))))))))))))))))⟩
theorem t16 : trF Try.prog [2, 3] [] Try.f16 = some m16 := by kernel_rfl
end Go.Proofs.Ytkgfcdpckfhknaa

namespace Go.Proofs.Ytkgfcdpckfhknaa
open Go Go.Eng
theorem lit_mem (A : AHeap) : L3 (A ++ [.cells true [I 0, I 1, I 7, I 1, I 0, I 5]]) (.sl 3 A.length 0 2 true) lit := ⟨e3_len, by simp [slCells, cellsAt, lit, e3]⟩
section
variable {Q : Int} {rs : List Rd} {ks : List Int} {u v : AV} {A : AHeap}
set_option maxRecDepth 40000 in
set_option maxHeartbeats 64000000 in
theorem s16 (hu : L3 A u rs) (hP : W Q) (a b : Int) : ACalls Try.prog 16 [.agg [I Q, u], .agg [I a, I b]] A (B true) A := by
  refine acalls hmix Try.func16 (by kernel_rfl) t16 2 rfl (by decide) ?_
  rw [start2]
  have hpA := pre_app A [AObj.cells true [I 0, I 1, I 7, I 1, I 0, I 5]]
  obtain ⟨w1, w2, w3⟩ := lit_worst
  dsimp only [m16]
  simp (maxSteps := 4000000) -implicitDefEqProofs -dsimp (disch := omega) only [↓AW_ops, ↓AW_seq, ↓AOps_nil, ↓AOps_pu, ↓AOps_ha, ↓AOps_call, on_some, extK_app, ↓then_normal, pval, hval, rd_mkS, rd_mkS0, Nat.reduceBEq, Nat.reduceLT, rd_C, put_mkS, AV.cells?, splice, fillA, repl, beq_self_eq_true, eq_self, List.drop_zero, List.drop_succ_cons, List.drop_nil, List.take_zero, List.take_succ_cons, Option.map_some, map_c, map_n, List.length_cons, List.length_nil, Nat.reduceAdd, Nat.reduceSub, Nat.reduceLeDiff, Nat.zero_add, List.cons_append, List.nil_append, List.append_nil, if_true, Bool.cond_true, Bool.cond_false, and_true, repl]
  refine CallK.of (s25 (lit_mem A) ⟨by decide, by decide⟩ 0 1) ?_
  rw [w1, w2, w3]
  have huA := hu.mono hpA
  generalize A ++ [AObj.cells true [I 0, I 1, I 7, I 1, I 0, I 5]] = A1 at hpA huA ⊢
  simp (maxSteps := 4000000) -implicitDefEqProofs -dsimp (disch := omega) only [↓AW_skip, ↓AW_ops, ↓AW_seq, ↓AW_cond, ↓AOps_nil, ↓AOps_pu, ↓AOps_call, ↓AOps_guard, on_some, extK_same, guardB_ff, condB_f, ↓then_normal, pval, rd_mkS, rd_mkS0, Nat.reduceBEq, Nat.reduceLT, rd_C, put_mkS, chkd, bgot, partA, beq_self_eq_true, eq_self, List.getElem?_cons_zero, List.getElem?_cons_succ, List.drop_zero, List.take_succ_cons, List.take_nil, map_c, map_n, List.length_cons, List.length_nil, Nat.reduceAdd, Nat.reduceSub, Nat.reduceLeDiff, Nat.reduceEqDiff, Nat.zero_add, bin_neq, if_true, if_false, Bool.false_eq_true, Bool.not_true, decide_false, Bool.cond_true, Bool.cond_false, not_true_eq_false]
  refine CallK.of (s17 huA Q) ?_
  by_cases h1 : (100 : Int) < rs.length
  · simp (maxSteps := 4000000) -implicitDefEqProofs -dsimp (disch := omega) only [↓AW_ops, ↓AW_seq, ↓AW_cond, ↓AW_ret, ↓AOps_nil, ↓AOps_pu, on_some, extK_same, condB_t, ↓then_normal, ↓then_ret, ↓Fin_ret, pval, rd_mkS, rd_mkS0, Nat.reduceBEq, Nat.reduceLT, rd_C, put_mkS, resV, resL, beq_self_eq_true, Nat.reduceAdd, Nat.reduceSub, if_true, decide_true, Bool.cond_true, Bool.cond_false, h1]
    exact gc_val hpA rfl
  have hl : rs.length ≤ 1000000 := by omega
  simp (maxSteps := 4000000) -implicitDefEqProofs -dsimp (disch := omega) only [↓AW_skip, ↓AW_ops, ↓AW_seq, ↓AW_cond, ↓AOps_nil, ↓AOps_pu, ↓AOps_call, on_some, extK_same, condB_f, ↓then_normal, pval, rd_mkS, rd_mkS0, Nat.reduceBEq, Nat.reduceLT, put_mkS, chkd, bgot, partA, beq_self_eq_true, eq_self, List.getElem?_cons_zero, List.drop_zero, List.take_succ_cons, List.take_nil, map_c, map_n, List.length_cons, List.length_nil, Nat.reduceAdd, Nat.reduceSub, Nat.reduceLeDiff, Nat.reduceEqDiff, Nat.zero_add, if_true, if_false, decide_false, Bool.cond_true, Bool.cond_false, h1]
  by_cases h0 : vE Q rs = 0
  case neg =>
    refine CallK.of (c_Tree_bad huA hP h0) ?_
    simp (maxSteps := 4000000) -implicitDefEqProofs -dsimp (disch := omega) only [↓AW_ops, ↓AW_seq, ↓AW_cond, ↓AOps_nil, ↓AOps_pu, ↓AOps_call, on_some, extK_same, condB_t, ↓then_normal, pval, rd_mkS, rd_mkS0, Nat.reduceBEq, Nat.reduceLT, rd_C, put_mkS, chkd, bgot, partA, beq_self_eq_true, eq_self, List.getElem?_cons_zero, List.getElem?_cons_succ, List.drop_zero, List.take_succ_cons, List.take_nil, map_c, map_n, List.length_cons, List.length_nil, Nat.reduceAdd, Nat.reduceSub, Nat.reduceLeDiff, Nat.reduceEqDiff, Nat.zero_add, bin_neq, if_true, if_false, decide_true, Bool.cond_true, Bool.cond_false, not_false_eq_true, h0]
    refine CallK.of (s28 huA hP) ?_
    simp (maxSteps := 4000000) -implicitDefEqProofs -dsimp (disch := omega) only [↓AW_ret, ↓AOps_nil, ↓AOps_pu, on_some, extK_same, ↓then_normal, ↓then_ret, ↓Fin_ret, pval, rd_mkS, rd_mkS0, Nat.reduceBEq, Nat.reduceLT, put_mkS, resV, resL, beq_self_eq_true, eq_self, Nat.reduceAdd, Nat.reduceSub, bin_eql, if_true, decide_true, Bool.cond_true, Bool.cond_false]
    exact gc_val hpA rfl
  have hn := vE_0.1 h0
  obtain ⟨P, rfl⟩ := hn.nat
  have hl14 := hn.l
  have hp7 := hn.p7
  have hcp := cnt_pos hn
  by_cases hj : Jbl P rs
  case neg =>
    refine CallK.of (c_Tree_none huA hn hj) ?_
    simp (maxSteps := 4000000) -implicitDefEqProofs -dsimp (disch := omega) only [↓AW_skip, ↓AW_ops, ↓AW_seq, ↓AW_cond, ↓AOps_nil, ↓AOps_pu, ↓AOps_call, on_some, extK_same, condB_f, ↓then_normal, pval, rd_mkS, rd_mkS0, Nat.reduceBEq, Nat.reduceLT, rd_C, put_mkS, chkd, bgot, partA, beq_self_eq_true, eq_self, List.getElem?_cons_zero, List.getElem?_cons_succ, List.drop_zero, List.take_succ_cons, List.take_nil, map_c, map_n, List.length_cons, List.length_nil, Nat.reduceAdd, Nat.reduceSub, Nat.reduceLeDiff, Nat.reduceEqDiff, Nat.zero_add, bin_neq, if_true, if_false, decide_false, Bool.cond_true, Bool.cond_false, not_true_eq_false]
    refine CallK.of (s43 huA hP) ?_
    rw [h0]
    simp (maxSteps := 4000000) -implicitDefEqProofs -dsimp (disch := omega) only [↓AW_ops, ↓AW_seq, ↓AOps_nil, ↓AOps_pu, ↓AOps_call, on_some, extK_same, ↓then_normal, pval, rd_mkS, rd_mkS0, Nat.reduceBEq, Nat.reduceLT, put_mkS, chkd, bgot, partA, beq_self_eq_true, eq_self, List.getElem?_cons_zero, List.getElem?_cons_succ, List.drop_zero, List.take_succ_cons, List.take_nil, map_c, map_n, List.length_cons, List.length_nil, Nat.reduceAdd, Nat.reduceSub, Nat.reduceLeDiff, Nat.reduceEqDiff, Nat.zero_add, if_true, if_false, Bool.cond_true, Bool.cond_false]
    obtain ⟨ra, H2, c2, p2, hA⟩ := s45 huA hP
    refine CallK.of c2 ?_
    rw [h0]
    simp (maxSteps := 4000000) -implicitDefEqProofs -dsimp (disch := omega) only [↓AW_ops, ↓AW_seq, ↓AOps_nil, ↓AOps_pu, ↓AOps_call, on_some, extK_false, ↓then_normal, pval, rd_mkS, rd_mkS0, Nat.reduceBEq, Nat.reduceLT, put_mkS, chkd, bgot, partA, beq_self_eq_true, eq_self, List.getElem?_cons_zero, List.getElem?_cons_succ, List.drop_zero, List.take_succ_cons, List.take_nil, map_c, map_n, List.length_cons, List.length_nil, Nat.reduceAdd, Nat.reduceSub, Nat.reduceLeDiff, Nat.reduceEqDiff, Nat.zero_add, if_true, if_false, Bool.cond_true, Bool.cond_false]
    obtain ⟨rn, H3, c3, p3, hN⟩ := s47 (huA.mono p2) hP
    refine CallK.of c3 ?_
    rw [h0]
    have hc0 : ¬ (0 < tN P rs) := fun h => hj (hcp.1 h)
    obtain ⟨g1, g2⟩ := all_len hn hj
    have hAl := (hA.mono p3).len
    have hNl := hN.len
    rw [g1] at hAl
    rw [g2] at hNl
    simp (maxSteps := 4000000) -implicitDefEqProofs -dsimp (disch := omega) only [↓AW_skip, ↓AW_ops, ↓AW_seq, ↓AW_cond, ↓AW_ret, ↓AOps_nil, ↓AOps_pu, ↓AOps_guard, on_some, extK_false, guardB_tt, guardB_ff, condB_t, condB_f, ↓then_normal, ↓then_ret, ↓Fin_ret, pval, rd_mkS, rd_mkS0, Nat.reduceBEq, Nat.reduceLT, rd_C, put_mkS, resV, resL, chkd, isAdr, bgot, AV.cells?, partA, beq_self_eq_true, eq_self, List.getElem?_cons_zero, List.getElem?_cons_succ, List.drop_zero, List.drop_succ_cons, List.take_succ_cons, List.take_nil, List.length_cons, List.length_nil, Nat.reduceAdd, Nat.reduceSub, Nat.reduceLeDiff, Nat.zero_add, bin_eql, bin_neq, bin_gtr, if_true, if_false, Bool.false_eq_true, Bool.not_true, Bool.not_false, decide_true, decide_false, Bool.cond_true, Bool.cond_false, not_true_eq_false, hc0, hAl, hNl, (huA.mono (p2.trans p3)).len]
    exact gc_val (hpA.trans (p2.trans p3)) rfl
  obtain ⟨rt, H1, c1, p1, T, hT, hok, hTr, hcst⟩ := c_Tree_some huA hn hj
  refine CallK.of c1 ?_
  simp (maxSteps := 4000000) -implicitDefEqProofs -dsimp (disch := omega) only [↓AW_skip, ↓AW_ops, ↓AW_seq, ↓AW_cond, ↓AOps_nil, ↓AOps_pu, ↓AOps_call, on_some, extK_false, condB_f, ↓then_normal, pval, rd_mkS, rd_mkS0, Nat.reduceBEq, Nat.reduceLT, rd_C, put_mkS, chkd, bgot, partA, beq_self_eq_true, eq_self, List.getElem?_cons_zero, List.getElem?_cons_succ, List.drop_zero, List.take_succ_cons, List.take_nil, map_c, map_n, List.length_cons, List.length_nil, Nat.reduceAdd, Nat.reduceSub, Nat.reduceLeDiff, Nat.reduceEqDiff, Nat.zero_add, bin_neq, if_true, if_false, decide_false, Bool.cond_true, Bool.cond_false, not_true_eq_false]
  have hu1 := huA.mono p1
  refine CallK.of (s43 hu1 hP) ?_
  rw [h0]
  simp (maxSteps := 4000000) -implicitDefEqProofs -dsimp (disch := omega) only [↓AW_ops, ↓AW_seq, ↓AOps_nil, ↓AOps_pu, ↓AOps_call, on_some, extK_same, ↓then_normal, pval, rd_mkS, rd_mkS0, Nat.reduceBEq, Nat.reduceLT, put_mkS, chkd, bgot, partA, beq_self_eq_true, eq_self, List.getElem?_cons_zero, List.getElem?_cons_succ, List.drop_zero, List.take_succ_cons, List.take_nil, map_c, map_n, List.length_cons, List.length_nil, Nat.reduceAdd, Nat.reduceSub, Nat.reduceLeDiff, Nat.reduceEqDiff, Nat.zero_add, if_true, if_false, Bool.cond_true, Bool.cond_false]
  obtain ⟨ra, H2, c2, p2, hA⟩ := s45 hu1 hP
  refine CallK.of c2 ?_
  rw [h0]
  simp (maxSteps := 4000000) -implicitDefEqProofs -dsimp (disch := omega) only [↓AW_ops, ↓AW_seq, ↓AOps_nil, ↓AOps_pu, ↓AOps_call, on_some, extK_false, ↓then_normal, pval, rd_mkS, rd_mkS0, Nat.reduceBEq, Nat.reduceLT, put_mkS, chkd, bgot, partA, beq_self_eq_true, eq_self, List.getElem?_cons_zero, List.getElem?_cons_succ, List.drop_zero, List.take_succ_cons, List.take_nil, map_c, map_n, List.length_cons, List.length_nil, Nat.reduceAdd, Nat.reduceSub, Nat.reduceLeDiff, Nat.reduceEqDiff, Nat.zero_add, if_true, if_false, Bool.cond_true, Bool.cond_false]
  have hu2 := hu1.mono p2
  obtain ⟨rn, H3, c3, p3, hN⟩ := s47 hu2 hP
  refine CallK.of c3 ?_
  rw [h0]
  have hc0 : 0 < tN P rs := hcp.2 hj
  simp (maxSteps := 4000000) -implicitDefEqProofs -dsimp (disch := omega) only [↓AW_skip, ↓AW_ops, ↓AW_seq, ↓AW_cond, ↓AOps_nil, ↓AOps_pu, ↓AOps_call, ↓AOps_guard, on_some, extK_false, guardB_ff, condB_f, ↓then_normal, pval, rd_mkS, rd_mkS0, Nat.reduceBEq, Nat.reduceLT, rd_C, put_mkS, chkd, bgot, partA, beq_self_eq_true, eq_self, List.getElem?_cons_zero, List.getElem?_cons_succ, List.drop_zero, List.take_succ_cons, List.take_nil, map_c, map_n, List.length_cons, List.length_nil, Nat.reduceAdd, Nat.reduceSub, Nat.reduceLeDiff, Nat.reduceEqDiff, Nat.zero_add, bin_neq, bin_gtr, if_true, if_false, Bool.false_eq_true, Bool.not_true, decide_true, decide_false, Bool.cond_true, Bool.cond_false, not_true_eq_false, hc0]
  have hu3 := hu2.mono p3
  have hT3 := hT.mono (p2.trans p3)
  have hA3 := hA.mono p3
  have hTl : T.length ≤ 1000000 := by have := hTr.1; omega
  have htE : tE P rs T = 0 := tE_0.2 ⟨hn, hok, hTr⟩
  refine CallK.of (s33 hu3 hT3 hP hTl) ?_
  rw [iC_0 htE, htE, decide_eq_true hcst]
  simp (maxSteps := 4000000) -implicitDefEqProofs -dsimp (disch := omega) only [↓AW_ops, ↓AW_seq, ↓AOps_nil, ↓AOps_pu, ↓AOps_call, on_some, extK_same, ↓then_normal, pval, rd_mkS, rd_mkS0, Nat.reduceBEq, Nat.reduceLT, put_mkS, chkd, bgot, partA, beq_self_eq_true, eq_self, List.getElem?_cons_zero, List.getElem?_cons_succ, List.drop_zero, List.take_succ_cons, List.take_nil, map_c, map_n, List.length_cons, List.length_nil, Nat.reduceAdd, Nat.reduceSub, Nat.reduceLeDiff, Nat.reduceEqDiff, Nat.zero_add, if_true, if_false, Bool.cond_true, Bool.cond_false]
  obtain ⟨o, i, is, c4, hBA⟩ := s41 hu3 hP hT3 hTl
  refine CallK.of c4 ?_
  have his : is = false := by
    rcases hBA with ⟨_, _, ho, hi, hs, hw⟩ | ⟨h, _⟩
    · rw [Int.toNat_natCast] at hs
      have := (noB_iff hn hok hTr).2 hcst o i hs.1 hi hs
      omega
    · exact h
  rw [htE, his]
  have hpH := hpA.trans (p1.trans (p2.trans p3))
  have hTc : T ∈ chl P rs := (mem_chl' hn).2 ⟨hok, hTr, hcst⟩
  obtain ⟨hfa, hfn⟩ := fl_len h1 (P : Int)
  clear c1 c2 c3 c4
  simp (maxSteps := 4000000) -implicitDefEqProofs -dsimp (disch := omega) only [↓AW_skip, ↓AW_ops, ↓AW_seq, ↓AW_cond, ↓AW_block, ↓AOps_nil, ↓AOps_pu, ↓AOps_guard, on_some, extK_same, guardB_ff, condB_f, ↓then_normal, pval, rd_mkS, rd_mkS0, Nat.reduceBEq, Nat.reduceLT, rd_C, put_mkS, ↓AW_toLoop, beq_self_eq_true, eq_self, List.getElem?_cons_zero, List.getElem?_cons_succ, Nat.reduceAdd, Nat.reduceSub, bin_neq, if_true, if_false, Bool.false_eq_true, Bool.not_true, decide_false, Bool.cond_true, Bool.cond_false, not_true_eq_false]
  refine LoopK.byS (fun x : Nat × AHeap => x.1 ≤ rs.length ∧ x.2 = H3) (fun x => [(2, .agg [I P, u]), (3, .agg [I a, I b]), (8, rt), (13, ra), (15, rn), (21, I x.1)]) (fun x => x.2) (fun x => rs.length - x.1) (0, H3) ⟨by simp only; omega, rfl⟩ (by simp [Has, rd_mkS]) rfl ?_
  rintro ⟨j, H⟩ ⟨hjl, hHe⟩
  simp only at hjl hHe
  subst hHe
  by_cases hlt : j < rs.length
  · have hlt' : (j : Int) < rs.length := by omega
    have hk : 0 ≤ (j : Int) ∧ (j : Int) ≤ (rs.length : Int) - 1 := by omega
    have hnE : nE P rs [(j : Int)] = 0 := by
      unfold nE
      rw [if_pos (vE_0.2 hn), if_neg (notOf_of (fun k hk2 => by rw [List.mem_singleton.1 hk2]; exact hk))]
    have hrJ : rgJ P rs (j : Int) := ⟨hnE, by rw [Int.toNat_natCast]; exact hj⟩
    have hrA : rgA P rs (j : Int) = rgC rs (j : Int) := if_pos hrJ
    obtain ⟨m1, m2⟩ := mem_alL hn (i := (j : Int)) (by omega)
    have hnr := nev_rg hn hj hk
    obtain ⟨hr, _⟩ := rdx_at hk.1 hk.2
    rw [Int.toNat_natCast] at hr
    have hwe : (rdx rs (j : Int)).2.2 = wct rs (j : Int) := rfl
    simp (maxSteps := 4000000) -implicitDefEqProofs -dsimp (disch := omega) only [↓AW_skip, ↓AW_ops, ↓AW_seq, ↓AW_cond, ↓AW_block, ↓AOps_nil, ↓AOps_pu, ↓AOps_call, on_some, condB_t, ↓then_normal, pval, rd_mkS, rd_mkS0, Nat.reduceBEq, Nat.reduceLT, put_mkS, chkd, isAdr, bgot, AV.cells?, partA, beq_self_eq_true, eq_self, List.getElem?_cons_zero, List.getElem?_cons_succ, List.drop_zero, List.drop_succ_cons, List.take_succ_cons, List.take_nil, map_c, map_n, List.length_cons, List.length_nil, Nat.reduceAdd, Nat.reduceLeDiff, Nat.reduceEqDiff, Nat.zero_add, bin_lss, if_true, if_false, Bool.false_eq_true, decide_true, Bool.cond_true, Bool.cond_false, hlt', hu3.len]
    refine CallK.of (s19 hu3 hP (j : Int) hl) ?_
    rw [hnE, hrA, decide_eq_true hrJ]
    simp (maxSteps := 4000000) -implicitDefEqProofs -dsimp (disch := omega) only [↓AW_ops, ↓AW_seq, ↓AOps_nil, ↓AOps_pu, ↓AOps_call, ↓AOps_guard, on_some, extK_same, guardB_ff, ↓then_normal, pval, rd_mkS, rd_mkS0, Nat.reduceBEq, Nat.reduceLT, rd_C, put_mkS, beq_self_eq_true, eq_self, List.getElem?_cons_zero, List.getElem?_cons_succ, map_c, map_n, bin_neq, if_true, if_false, Bool.false_eq_true, Bool.not_true, decide_false, Bool.cond_true, Bool.cond_false, not_true_eq_false]
    refine CallK.of (s51 hN hfn (j : Int)) ?_
    by_cases hv : nev P rs (j : Int)
    · have hlow := hnr.1 hv
      have hnt : (j : Int) ∉ T := hv T hTc
      have hna : ¬ (j : Int) ∈ alL P rs := fun h => hnt (m1.1 h T hTc)
      rw [decide_eq_true (m2.2 hv)]
      simp (maxSteps := 4000000) -implicitDefEqProofs -dsimp (disch := omega) only [↓AOps_pu, ↓AOps_ld, ↓AOps_call, ↓AOps_guard, on_some, extK_same, guardB_ff, pval, lval, rd_mkS, rd_mkS0, Nat.reduceBEq, Nat.reduceLT, rd_C, put_mkS, chkd, isAdr, bgot, AV.cells?, partA, beq_self_eq_true, eq_self, List.getElem?_cons_zero, List.getElem?_cons_succ, List.drop_zero, List.drop_succ_cons, List.take_succ_cons, List.take_nil, map_c, map_n, List.length_cons, List.length_nil, Nat.reduceAdd, Nat.reduceLeDiff, Nat.zero_add, bin_gtr, if_true, if_false, Bool.false_eq_true, Bool.not_true, decide_true, Bool.cond_true, Bool.cond_false, hu3.idx hlt, hu3.ld hr 1 2 false (by decide), e3, hwe, hlow]
      refine CallK.of (s51 hT3 hTl (j : Int)) ?_
      rw [decide_eq_false hnt]
      simp (maxSteps := 4000000) -implicitDefEqProofs -dsimp (disch := omega) only [↓AOps_pu, ↓AOps_call, ↓AOps_guard, on_some, extK_same, guardB_ft, guardB_ff, skipS_some, pval, rd_mkS, rd_mkS0, Nat.reduceBEq, Nat.reduceLT, rd_C, put_mkS, beq_self_eq_true, map_c, map_n, if_true, if_false, Bool.false_eq_true, Bool.cond_true, Bool.cond_false]
      refine CallK.of (s51 hA3 hfa (j : Int)) ?_
      rw [decide_eq_false hna]
      simp (maxSteps := 4000000) -implicitDefEqProofs -dsimp (disch := omega) only [↓AW_skip, ↓AW_ops, ↓AW_cond, ↓AOps_nil, ↓AOps_pu, ↓AOps_guard, on_some, extK_same, guardB_ft, guardB_ff, skipS_some, condB_f, ↓then_normal, ↓inBlock_normal, pval, rd_mkS, rd_mkS0, Nat.reduceBEq, Nat.reduceLT, mkS_len, rd_C, put_mkS, beq_self_eq_true, eq_self, bin_add, w64, if_true, if_false, Bool.false_eq_true, Bool.cond_true, Bool.cond_false, true_and]
      exact ⟨(j + 1, H), ⟨hlt, rfl⟩, by simp [Has, rd_mkS], rfl, by simp only; omega⟩
    · have hlow : ¬ rgC rs (j : Int) < wct rs (j : Int) := fun h => hv (hnr.2 h)
      rw [decide_eq_false (fun h => hv (m2.1 h))]
      simp (maxSteps := 4000000) -implicitDefEqProofs -dsimp (disch := omega) only [↓AOps_pu, ↓AOps_ld, ↓AOps_call, ↓AOps_guard, on_some, extK_same, guardB_ff, pval, lval, rd_mkS, rd_mkS0, Nat.reduceBEq, Nat.reduceLT, rd_C, put_mkS, chkd, isAdr, bgot, AV.cells?, partA, beq_self_eq_true, eq_self, List.getElem?_cons_zero, List.getElem?_cons_succ, List.drop_zero, List.drop_succ_cons, List.take_succ_cons, List.take_nil, map_c, map_n, List.length_cons, List.length_nil, Nat.reduceAdd, Nat.reduceLeDiff, Nat.zero_add, bin_gtr, if_true, if_false, Bool.false_eq_true, Bool.not_true, decide_false, Bool.cond_true, Bool.cond_false, hu3.idx hlt, hu3.ld hr 1 2 false (by decide), e3, hwe, hlow]
      refine CallK.of (s51 hT3 hTl (j : Int)) ?_
      by_cases hjT : (j : Int) ∈ T
      · rw [decide_eq_true hjT]
        simp (maxSteps := 4000000) -implicitDefEqProofs -dsimp (disch := omega) only [↓AOps_pu, ↓AOps_call, ↓AOps_guard, on_some, extK_same, guardB_tt, guardB_ff, pval, rd_mkS, rd_mkS0, Nat.reduceBEq, Nat.reduceLT, put_mkS, beq_self_eq_true, map_c, map_n, if_true, Bool.cond_true, Bool.cond_false]
        refine CallK.of (s51 hN hfn (j : Int)) ?_
        rw [decide_eq_false (fun h => hv (m2.1 h))]
        simp (maxSteps := 4000000) -implicitDefEqProofs -dsimp (disch := omega) only [↓AOps_pu, ↓AOps_call, ↓AOps_guard, on_some, extK_same, guardB_ff, pval, rd_mkS, rd_mkS0, Nat.reduceBEq, Nat.reduceLT, rd_C, put_mkS, beq_self_eq_true, eq_self, map_c, map_n, if_true, if_false, Bool.false_eq_true, Bool.cond_true, Bool.cond_false]
        refine CallK.of (s51 hA3 hfa (j : Int)) ?_
        by_cases hjA : (j : Int) ∈ alL P rs
        · rw [decide_eq_true hjA]
          simp (maxSteps := 4000000) -implicitDefEqProofs -dsimp (disch := omega) only [↓AOps_pu, ↓AOps_call, ↓AOps_guard, on_some, extK_same, guardB_tt, guardB_ff, pval, rd_mkS, rd_mkS0, Nat.reduceBEq, Nat.reduceLT, put_mkS, beq_self_eq_true, map_c, map_n, if_true, Bool.cond_true, Bool.cond_false]
          refine CallK.of (s51 hT3 hTl (j : Int)) ?_
          rw [decide_eq_true hjT]
          simp (maxSteps := 4000000) -implicitDefEqProofs -dsimp (disch := omega) only [↓AW_skip, ↓AW_ops, ↓AW_cond, ↓AOps_nil, ↓AOps_pu, ↓AOps_guard, on_some, extK_same, guardB_tt, guardB_ff, condB_f, ↓then_normal, ↓inBlock_normal, pval, rd_mkS, rd_mkS0, Nat.reduceBEq, Nat.reduceLT, mkS_len, rd_C, put_mkS, beq_self_eq_true, eq_self, bin_add, w64, if_true, if_false, Bool.false_eq_true, Bool.not_true, Bool.cond_true, Bool.cond_false, true_and]
          exact ⟨(j + 1, H), ⟨hlt, rfl⟩, by simp [Has, rd_mkS], rfl, by simp only; omega⟩
        · rw [decide_eq_false hjA]
          simp (maxSteps := 4000000) -implicitDefEqProofs -dsimp (disch := omega) only [↓AW_skip, ↓AW_ops, ↓AW_cond, ↓AOps_nil, ↓AOps_pu, ↓AOps_guard, on_some, extK_same, guardB_ft, guardB_ff, skipS_some, condB_f, ↓then_normal, ↓inBlock_normal, pval, rd_mkS, rd_mkS0, Nat.reduceBEq, Nat.reduceLT, mkS_len, rd_C, put_mkS, beq_self_eq_true, eq_self, bin_add, w64, if_true, if_false, Bool.false_eq_true, Bool.cond_true, Bool.cond_false, true_and]
          exact ⟨(j + 1, H), ⟨hlt, rfl⟩, by simp [Has, rd_mkS], rfl, by simp only; omega⟩
      · have hna : ¬ (j : Int) ∈ alL P rs := fun h => hjT (m1.1 h T hTc)
        rw [decide_eq_false hjT]
        simp (maxSteps := 4000000) -implicitDefEqProofs -dsimp (disch := omega) only [↓AOps_pu, ↓AOps_call, ↓AOps_guard, on_some, extK_same, guardB_ft, guardB_ff, skipS_some, pval, rd_mkS, rd_mkS0, Nat.reduceBEq, Nat.reduceLT, rd_C, put_mkS, beq_self_eq_true, map_c, map_n, if_true, if_false, Bool.false_eq_true, Bool.cond_true, Bool.cond_false]
        refine CallK.of (s51 hA3 hfa (j : Int)) ?_
        rw [decide_eq_false hna]
        simp (maxSteps := 4000000) -implicitDefEqProofs -dsimp (disch := omega) only [↓AW_skip, ↓AW_ops, ↓AW_cond, ↓AOps_nil, ↓AOps_pu, ↓AOps_guard, on_some, extK_same, guardB_ft, guardB_ff, skipS_some, condB_f, ↓then_normal, ↓inBlock_normal, pval, rd_mkS, rd_mkS0, Nat.reduceBEq, Nat.reduceLT, mkS_len, rd_C, put_mkS, beq_self_eq_true, eq_self, bin_add, w64, if_true, if_false, Bool.false_eq_true, Bool.cond_true, Bool.cond_false, true_and]
        exact ⟨(j + 1, H), ⟨hlt, rfl⟩, by simp [Has, rd_mkS], rfl, by simp only; omega⟩
  · have hlt' : ¬ ((j : Int) < rs.length) := by omega
    simp (maxSteps := 4000000) -implicitDefEqProofs -dsimp (disch := omega) only [↓AW_ops, ↓AW_seq, ↓AW_cond, ↓AW_exit, ↓AOps_nil, ↓AOps_pu, ↓AOps_call, on_some, condB_f, ↓then_normal, ↓then_exit, ↓inBlock_exit, pval, rd_mkS, rd_mkS0, Nat.reduceBEq, Nat.reduceLT, put_mkS, chkd, isAdr, bgot, AV.cells?, partA, beq_self_eq_true, eq_self, List.getElem?_cons_zero, List.getElem?_cons_succ, List.drop_zero, List.drop_succ_cons, List.take_zero, List.take_succ_cons, List.take_nil, map_c, map_n, List.length_cons, List.length_nil, Nat.reduceAdd, Nat.reduceLeDiff, Nat.reduceEqDiff, Nat.zero_add, bin_lss, if_true, if_false, Bool.false_eq_true, decide_false, Bool.cond_true, Bool.cond_false, hlt', hu3.len]
    refine CallK.of (s25 hu3 hP a b) ?_
    by_cases hp0 : pE P rs a b = 0
    case neg =>
      have hw : wB P rs a b = false := by unfold wB; rw [decide_eq_false hp0, Bool.false_and]
      rw [hw]
      simp (maxSteps := 4000000) -implicitDefEqProofs -dsimp (disch := omega) only [↓AW_ops, ↓AW_seq, ↓AW_cond, ↓AW_ret, ↓AOps_nil, ↓AOps_pu, on_some, extK_same, condB_t, ↓then_normal, ↓then_ret, ↓Fin_ret, pval, rd_mkS, rd_mkS0, Nat.reduceBEq, Nat.reduceLT, rd_C, put_mkS, resV, resL, beq_self_eq_true, List.getElem?_cons_zero, List.getElem?_cons_succ, bin_neq, if_true, Bool.not_false, decide_true, Bool.cond_true, Bool.cond_false, not_false_eq_true, hp0]
      exact gc_val hpH rfl
    obtain ⟨g1, g2, g3, g4⟩ := jbl_worst hn hj hp0
    rw [hp0, g1]
    simp (maxSteps := 4000000) -implicitDefEqProofs -dsimp (disch := omega) only [↓AW_skip, ↓AW_ops, ↓AW_seq, ↓AW_cond, ↓AOps_nil, ↓AOps_pu, ↓AOps_call, on_some, extK_same, condB_f, ↓then_normal, pval, rd_mkS, rd_mkS0, Nat.reduceBEq, Nat.reduceLT, rd_C, put_mkS, chkd, isAdr, bgot, AV.cells?, partA, beq_self_eq_true, eq_self, List.getElem?_cons_zero, List.getElem?_cons_succ, List.drop_zero, List.drop_succ_cons, List.take_zero, List.take_succ_cons, List.take_nil, map_c, map_n, List.length_cons, List.length_nil, Nat.reduceAdd, Nat.reduceLeDiff, Nat.reduceEqDiff, Nat.zero_add, bin_neq, if_true, if_false, Bool.false_eq_true, decide_false, Bool.cond_true, Bool.cond_false, not_true_eq_false]
    obtain ⟨rw, H5, c5, p5, hwt, _⟩ := s36 hu3 hP a b
    obtain ⟨ws, hW, hwl, y1, y2⟩ := hwt g1
    refine CallK.of c5 ?_
    rw [hp0, g1]
    simp (maxSteps := 4000000) -implicitDefEqProofs -dsimp (disch := omega) only [↓AW_skip, ↓AW_ops, ↓AW_seq, ↓AW_cond, ↓AOps_nil, ↓AOps_pu, ↓AOps_call, ↓AOps_guard, on_some, extK_false, guardB_ff, condB_f, ↓then_normal, pval, rd_mkS, rd_mkS0, Nat.reduceBEq, Nat.reduceLT, rd_C, put_mkS, chkd, isAdr, bgot, AV.cells?, partA, beq_self_eq_true, eq_self, List.getElem?_cons_zero, List.getElem?_cons_succ, List.drop_zero, List.drop_succ_cons, List.take_zero, List.take_succ_cons, List.take_nil, map_c, map_n, List.length_cons, List.length_nil, Nat.reduceAdd, Nat.reduceLeDiff, Nat.reduceEqDiff, Nat.zero_add, bin_neq, if_true, if_false, Bool.false_eq_true, Bool.not_true, decide_false, Bool.cond_true, Bool.cond_false, not_true_eq_false]
    have hu5 := hu3.mono p5
    have hpI := hpH.trans p5
    refine CallK.of (s30 hu5 hP hW (by omega) a b) ?_
    rw [y1, y2]
    simp (maxSteps := 4000000) -implicitDefEqProofs -dsimp (disch := omega) only [↓AW_ops, ↓AW_seq, ↓AOps_nil, ↓AOps_pu, ↓AOps_call, on_some, extK_same, ↓then_normal, pval, rd_mkS, rd_mkS0, Nat.reduceBEq, Nat.reduceLT, put_mkS, chkd, isAdr, bgot, AV.cells?, partA, beq_self_eq_true, eq_self, List.getElem?_cons_zero, List.getElem?_cons_succ, List.drop_zero, List.drop_succ_cons, List.take_zero, List.take_succ_cons, List.take_nil, map_c, map_n, List.length_cons, List.length_nil, Nat.reduceAdd, Nat.reduceLeDiff, Nat.reduceEqDiff, Nat.zero_add, if_true, if_false, Bool.false_eq_true, Bool.cond_true, Bool.cond_false]
    obtain ⟨r6, H6, c6, p6, _, hwf⟩ := s39 hu5 hP a b (wC P rs a b)
    refine CallK.of c6 ?_
    have hE1 : hE P rs a b (wC P rs a b) = 0 := hE_0.2 ⟨hp0, g2⟩
    have hB1 : hB P rs a b (wC P rs a b) = false := decide_eq_false (fun h => h.2 g3)
    rw [hE1, hB1]
    have hpJ := hpI.trans p6
    by_cases hz : wC P rs a b = 0
    · simp (maxSteps := 4000000) -implicitDefEqProofs -dsimp (disch := omega) only [↓AW_skip, ↓AW_ops, ↓AW_seq, ↓AW_cond, ↓AW_ret, ↓AOps_nil, ↓AOps_pu, ↓AOps_guard, on_some, extK_false, guardB_ff, condB_t, condB_f, ↓then_normal, ↓then_ret, ↓Fin_ret, pval, rd_mkS, rd_mkS0, Nat.reduceBEq, Nat.reduceLT, rd_C, put_mkS, resV, resL, beq_self_eq_true, eq_self, List.getElem?_cons_zero, List.getElem?_cons_succ, bin_eql, bin_neq, if_true, if_false, Bool.false_eq_true, decide_true, decide_false, Bool.cond_true, Bool.cond_false, not_true_eq_false, hz]
      exact gc_val hpJ rfl
    have hE2 : hE P rs a b (wC P rs a b - 1) = 0 := hE_0.2 ⟨hp0, by omega⟩
    have hnc : ¬ cnT rs (nums rs) (wC P rs a b - 1) a b := by
      rcases g4 with h | h
      · exact absurd h hz
      · exact h
    have hB2 : hB P rs a b (wC P rs a b - 1) = true := decide_eq_true ⟨hE2, hnc⟩
    have hxE := rS_wall hE2 hnc
    simp (maxSteps := 4000000) -implicitDefEqProofs -dsimp (disch := omega) only [↓AW_skip, ↓AW_ops, ↓AW_seq, ↓AW_cond, ↓AOps_nil, ↓AOps_pu, ↓AOps_call, ↓AOps_guard, on_some, extK_false, guardB_ff, condB_f, ↓then_normal, pval, rd_mkS, rd_mkS0, Nat.reduceBEq, Nat.reduceLT, rd_C, put_mkS, chkd, isAdr, bgot, AV.cells?, partA, beq_self_eq_true, eq_self, List.getElem?_cons_zero, List.getElem?_cons_succ, List.drop_zero, List.drop_succ_cons, List.take_zero, List.take_succ_cons, List.take_nil, map_c, map_n, List.length_cons, List.length_nil, Nat.reduceAdd, Nat.reduceLeDiff, Nat.reduceEqDiff, Nat.zero_add, bin_sub, bin_eql, bin_neq, w64, if_true, if_false, Bool.false_eq_true, decide_false, Bool.cond_true, Bool.cond_false, not_true_eq_false, hz]
    obtain ⟨r7, H7, c7, p7, hwt7, _⟩ := s39 (hu5.mono p6) hP a b (wC P rs a b - 1)
    have hL7 := hwt7 hB2
    rw [Int.toNat_natCast] at hL7
    refine CallK.of c7 ?_
    rw [hE2, hB2]
    have hrl : (rS P rs a (wC P rs a b - 1)).length ≤ 1000000 := by
      have h2 : (rS P rs a (wC P rs a b - 1)).length ≤ P := filt_len _ _
      omega
    simp (maxSteps := 4000000) -implicitDefEqProofs -dsimp (disch := omega) only [↓AW_ops, ↓AW_seq, ↓AOps_nil, ↓AOps_pu, ↓AOps_call, ↓AOps_guard, on_some, extK_false, guardB_tt, ↓then_normal, pval, rd_mkS, rd_mkS0, Nat.reduceBEq, Nat.reduceLT, rd_C, put_mkS, chkd, isAdr, bgot, AV.cells?, partA, beq_self_eq_true, eq_self, List.getElem?_cons_zero, List.getElem?_cons_succ, List.drop_zero, List.drop_succ_cons, List.take_zero, List.take_succ_cons, List.take_nil, map_c, map_n, List.length_cons, List.length_nil, Nat.reduceAdd, Nat.reduceLeDiff, Nat.reduceEqDiff, Nat.zero_add, bin_sub, bin_eql, w64, if_true, if_false, Bool.false_eq_true, decide_true, Bool.cond_true, Bool.cond_false]
    refine CallK.of (s37 ((hu5.mono p6).mono p7) hP hL7 hrl a b (wC P rs a b - 1)) ?_
    rw [hxE]
    simp (maxSteps := 4000000) -implicitDefEqProofs -dsimp (disch := omega) only [↓AW_ret, ↓AOps_nil, ↓AOps_pu, ↓AOps_guard, on_some, extK_same, guardB_tt, ↓then_normal, ↓Fin_ret, pval, rd_mkS, rd_mkS0, Nat.reduceBEq, Nat.reduceLT, rd_C, put_mkS, resV, resL, beq_self_eq_true, eq_self, bin_eql, if_true, decide_true, Bool.cond_true, Bool.cond_false]
    exact gc_val (hpJ.trans p7) rfl
end
end Go.Proofs.Ytkgfcdpckfhknaa

