/- Wishes: a giving that is filled. No conditions. -/
import Derived.Test.YtlmbobbefgcolaaW8
import Derived.Test.YtlmbobbefgcolaaS3
namespace Go.Proofs.Ytlmbobbefgcolaa
open Go Go.Eng

theorem st_new (A : AHeap) (x y : AV) (hx : x.cells? = some [x]) : stA 1 (.ptr A.length 0) x (A ++ [.cells true [y]]) = some (A ++ [.cells true [x]]) := by
  simp [stA, hx, splice]

theorem repl_false (n : Nat) : repl [AV.bool false] n = (List.replicate n false).flatMap eb := by
  induction n with
  | zero => rfl
  | succ n ih => rw [repl, ih, List.replicate_succ, List.flatMap_cons]; rfl

theorem s92 {P : Int} {ws : List (AV × List Int)} {A H : AHeap} {v : AV} {ng : Nat} {fg : Bool} {g : List Int} (hv : Val P (lists ws)) (hw : LL A v ws) (ho : OL 1 e1 A H ng (.sl 1 ng 0 ws.length fg) g) (hg : Good P (lists ws) g) (i : Int) (hi : inP ws.length i) :
    ACalls Try.prog 92 [.agg [I P, v, .sl 1 ng 0 ws.length fg], I i] H (B (chF (lists ws) (P.toNat + 1) i (List.replicate P.toNat false, g)).1) (H.set ng (.cells true ((chF (lists ws) (P.toNat + 1) i (List.replicate P.toNat false, g)).2.2.flatMap e1))) := by
  refine acalls hmix Try.func92 (by kernel_rfl) t92 2 rfl (by decide) ?_
  have hP := hv.hP
  have hls : ∀ l ∈ lists ws, ∀ p ∈ l, inP P p := fun l hl => (hv.l l hl).1
  have hP0 : 0 ≤ P := by omega
  have hPl : P ≤ (lim : Int) := by simp [lim]; omega
  have hlt := ho.lt
  dsimp only [m92]
  simp (maxSteps := 4000000) -implicitDefEqProofs -dsimp (disch := omega) only [↓AW_ops, ↓AW_seq, ↓AOps_nil, ↓AOps_pu, ↓AOps_ld, ↓AOps_ha, on_some, extK_app, ↓then_normal, pval, lval, hval_st, hval_newv, hval_mks, rd_S, rd_C, put_S, cells_agg, cells_nilS, beq_self_eq_true, List.replicate_succ, List.replicate_zero, List.set_cons_zero, List.set_cons_succ, List.getElem?_cons_zero, List.getElem?_cons_succ, Option.getD_some, Nat.reduceSub, Nat.add_zero, List.cons_append, List.nil_append, if_true, and_true, ld_new, hP0, hPl, Int.le_refl]
  rw [repl_false]
  generalize hH1 : H ++ [.cells true [I P, v, .sl 1 ng 0 ws.length fg]] = H1
  generalize hH2 : H1 ++ [.cells true ((List.replicate P.toNat false).flatMap eb)] = H2
  have st1 : stA 1 (.ptr H2.length 0) (.sl 1 H1.length 0 P.toNat true) (H2 ++ [.cells true [.nilS]]) = some (H2 ++ [.cells true [.sl 1 H1.length 0 P.toNat true]]) := st_new H2 _ _ rfl
  simp (maxSteps := 4000000) -implicitDefEqProofs -dsimp (disch := omega) only [↓AW_ops, ↓AW_seq, ↓AOps_nil, ↓AOps_pu, ↓AOps_ha, on_some, extK_false, extK_app, ↓then_normal, pval, hval_st, hval_newv, rd_S, rd_C, put_S, putS_none, cells_nilF, List.replicate_succ, List.replicate_zero, List.set_cons_zero, List.set_cons_succ, List.getElem?_cons_zero, List.getElem?_cons_succ, Option.getD_some, Option.map_some, map_c, map_n, Nat.reduceSub, List.cons_append, List.nil_append, st1]
  generalize hH3 : H2 ++ [.cells true [.sl 1 H1.length 0 P.toNat true]] = H3
  have st2 : stA 1 (.ptr H3.length 0) (.fn 101 [.ptr H.length 0, .ptr H2.length 0, .ptr H3.length 0]) (H3 ++ [.cells true [.nilF]]) = some (H3 ++ [.cells true [.fn 101 [.ptr H.length 0, .ptr H2.length 0, .ptr H3.length 0]]]) := st_new H3 _ _ rfl
  simp (maxSteps := 4000000) -implicitDefEqProofs -dsimp (disch := omega) only [↓AW_ops, ↓AW_seq, ↓AOps_nil, ↓AOps_pu, ↓AOps_ld, ↓AOps_callv, on_some, extK_false, CallF_fn, ↓then_normal, pval, lval, rd_S, put_S, putS_none, List.replicate_succ, List.replicate_zero, List.set_cons_zero, List.set_cons_succ, List.getElem?_cons_zero, List.getElem?_cons_succ, Option.getD_some, Option.map_some, map_c, map_n, Nat.reduceSub, List.cons_append, List.nil_append, st2, ld_new]
  generalize hH4 : H3 ++ [.cells true [.fn 101 [.ptr H.length 0, .ptr H2.length 0, .ptr H3.length 0]]] = H4
  have l1 : H1.length = H.length + 1 := by rw [← hH1]; simp
  have l2 : H2.length = H.length + 2 := by rw [← hH2]; simp [l1]
  have l3 : H3.length = H.length + 3 := by rw [← hH3]; simp [l2]
  have l4 : H4.length = H.length + 4 := by rw [← hH4]; simp [l3]
  have p34 : H3 <+: H4 := by rw [← hH4]; exact pre_app _ _
  have p24 : H2 <+: H4 := (show H2 <+: H3 by rw [← hH3]; exact pre_app _ _).trans p34
  have p14 : H1 <+: H4 := (show H1 <+: H2 by rw [← hH2]; exact pre_app _ _).trans p24
  have p04 : H <+: H4 := (show H <+: H1 by rw [← hH1]; exact pre_app _ _).trans p14
  have gA : H4[H1.length]? = some (.cells true ((List.replicate P.toNat false).flatMap eb)) := pre_get p24 (by rw [← hH2]; exact get_new _ _)
  have gG : H4[ng]? = some (.cells true (g.flatMap e1)) := pre_get p04 ho.ob
  have hc : Ctx P A H4 v H.length H2.length H3.length H1.length ng ws.length true fg := {
    pre := ho.pre.trans p04
    la := by have := ho.pre.length_le; omega
    lg := ho.new
    ne := by omega
    hna := by omega
    hng := by omega
    w := ⟨true, pre_get p14 (by rw [← hH1]; exact get_new _ _)⟩
    s := ⟨true, pre_get p34 (by rw [← hH3]; exact get_new _ _)⟩
    c := ⟨true, by rw [← hH4]; exact get_new _ _⟩
    w1 := by omega
    w2 := by omega
    s1 := by omega
    s2 := by omega
    c1 := by omega
    c2 := by omega }
  have hsame : hpS H4 H1.length ng (List.replicate P.toNat false, g) = H4 := by
    unfold hpS
    simp only
    rw [set_same gA, set_same gG]
  have h101 := s101 hv hw hc P.toNat i (List.replicate P.toNat false, g) hi (by simp) hg (by simp [unseen])
  rw [hsame] at h101
  refine CallK.of h101 ?_
  simp (maxSteps := 4000000) -implicitDefEqProofs -dsimp (disch := omega) only [↓AW_ret, ↓AOps_nil, ↓AOps_pu, on_some, extK_false, ↓then_normal, ↓Fin_ret, pval, rd_S, put_S, putS_none, resV, resL, List.replicate_succ, List.replicate_zero, List.set_cons_zero, List.set_cons_succ, List.getElem?_cons_zero, List.getElem?_cons_succ, Option.getD_some, Nat.reduceSub, List.cons_append, List.nil_append]
  refine gc_set ho.ob (fun x hx => ?_) ?_ rfl
  · obtain ⟨y, _, hy⟩ := List.mem_flatMap.1 hx
    exact flat_e1 y x hy
  · unfold hpS
    generalize (chF (lists ws) (P.toNat + 1) i (List.replicate P.toNat false, g)).2 = r
    have e4 : H4 = H ++ [.cells true [I P, v, .sl 1 ng 0 ws.length fg], .cells true ((List.replicate P.toNat false).flatMap eb), .cells true [.sl 1 H1.length 0 P.toNat true], .cells true [.fn 101 [.ptr H.length 0, .ptr H2.length 0, .ptr H3.length 0]]] := by
      rw [← hH4, ← hH3, ← hH2, ← hH1]; simp
    have e5 : H4.set H1.length (.cells true (r.1.flatMap eb)) = H ++ ([AObj.cells true [I P, v, .sl 1 ng 0 ws.length fg], .cells true ((List.replicate P.toNat false).flatMap eb), .cells true [.sl 1 H1.length 0 P.toNat true], .cells true [.fn 101 [.ptr H.length 0, .ptr H2.length 0, .ptr H3.length 0]]].set 1 (.cells true (r.1.flatMap eb))) := by
      conv => lhs; rw [e4]
      rw [List.set_append_right (h := by omega), l1, Nat.add_sub_cancel_left]
    rw [e5, List.set_append_left (h := hlt)]
    exact ⟨_, rfl⟩

end Go.Proofs.Ytlmbobbefgcolaa
