/- What the law's proof rests on, part 5: for all that is said in each line. No conditions. -/
import Derived.Test.YtkgfcdpckfhknaaClB
namespace Go.Proofs.Ytkgfcdpckfhknaa
open Go Go.Eng
/-- A list that grows, or that has room and no element yet. -/
def NS (A H : AHeap) (v : AV) (xs : List Int) : Prop :=
  AccL 1 e1 A H v xs ∨ (xs = [] ∧ A <+: H ∧ ∃ n l, v = .sl 1 n 0 0 false ∧ A.length ≤ n ∧ H[n]? = some (.cells true l))
theorem NS.pre {A H : AHeap} {v : AV} {xs : List Int} (h : NS A H v xs) : A <+: H := by
  rcases h with h | h
  · exact AccL.pre h
  · exact h.2.1
theorem NS.push {A H : AHeap} {v y : AV} {xs ys : List Int} (h : NS A H v xs) (hy : L1 H y ys) (hl : xs.length + ys.length ≤ lim) : ∃ v' H', appA 1 H v y = some (v', H') ∧ NS A H' v' (xs ++ ys) := by
  rcases h with h | ⟨rfl, hp, n, l, rfl, hn, hg⟩
  · obtain ⟨v', H', h1, h2⟩ := h.pushes hy hl
    exact ⟨v', H', h1, .inl h2⟩
  · have hc := hy.hc
    by_cases h0 : ys.length = 0
    · have : ys = [] := List.eq_nil_of_length_eq_zero h0
      subst this
      refine ⟨.sl 1 n 0 0 false, H, ?_, .inr ⟨rfl, hp, n, l, rfl, hn, hg⟩⟩
      unfold appA
      rw [hc]
      simp
    · have hlim : ys.length ≤ lim := by simpa using hl
      refine ⟨.sl 1 H.length 0 ys.length false, H.set n .dead ++ [.cells true (ys.flatMap e1)], ?_, .inl ⟨(pre_set hp hn _).trans (pre_app _ _), ?_, .inr ⟨by simpa using (by omega : 0 < ys.length), H.length, by simp, hp.length_le, by simp⟩⟩⟩
      · unfold appA
        rw [hc]
        simp [h0, hlim, hg]
      · simpa using flatMap_length e1_len ys
theorem c_Grow (n : Nat) (hn : n ≤ 1000) (A : AHeap) : ∃ v H, ACalls Try.prog 107 [.nilS, I n] A v H ∧ NS A H v [] := by
  by_cases h0 : n = 0
  · subst h0
    refine ⟨.nilS, A, ?_, .inl (AccL.nil (List.prefix_refl _))⟩
    refine acalls hmix Try.func107 (by kernel_rfl) t107 2 rfl (by decide) ?_
    dsimp only [m107]
    simp (maxSteps := 4000000) -implicitDefEqProofs -dsimp (disch := omega) only [↓AW_skip, ↓AW_ops, ↓AW_seq, ↓AW_cond, ↓AW_ret, ↓AOps_nil, ↓AOps_pu, on_some, condB_f, ↓then_normal, ↓Fin_ret, pval, rd_S, rd_C, put_S, resV, resL, List.replicate_succ, List.replicate_zero, List.set_cons_zero, List.set_cons_succ, List.getElem?_cons_zero, List.getElem?_cons_succ, Option.getD_some, Nat.reduceSub, List.cons_append, List.nil_append, bin_sub, bin_lss, bin_gtr, w64, decide_false, Int.reduceLT, Int.reduceSub, capA, lenA, show ((0 : Nat) : Int) = 0 from rfl]
    exact gc_same rfl
  · refine ⟨.sl 1 A.length 0 0 false, A ++ [.cells true (repl [I 0] n)], ?_, .inr ⟨rfl, pre_app _ _, A.length, repl [I 0] n, rfl, Nat.le_refl _, by simp⟩⟩
    refine acalls hmix Try.func107 (by kernel_rfl) t107 2 rfl (by decide) ?_
    have h1 : ¬ (n : Int) < 0 := by omega
    have h2 : (0 : Int) < n := by omega
    have h3 : (0 : Int) < n ∧ (n : Int) ≤ ((lim : Nat) : Int) := by unfold lim; omega
    have h4 : slcA 1 .nilS none (some (.int .i64 0)) none = some .nilS := rfl
    have h5 : slcA 1 (.sl 1 A.length 0 n false) none (some (.int .i64 0)) none = some (.sl 1 A.length 0 0 false) := by simp [slcA, bnd]
    dsimp only [m107]
    simp (maxSteps := 4000000) -implicitDefEqProofs -dsimp (disch := omega) only [↓AW_skip, ↓AW_ops, ↓AW_seq, ↓AW_cond, ↓AW_ret, ↓AOps_nil, ↓AOps_pu, ↓AOps_ha, on_some, extK_app, condB_t, condB_f, ↓then_normal, ↓Fin_ret, pval, hval, rd_S, rd_C, put_S, resV, resL, List.replicate_succ, List.replicate_zero, List.set_cons_zero, List.set_cons_succ, List.getElem?_cons_zero, List.getElem?_cons_succ, Option.getD_some, Option.map_some, Option.map_none, Nat.reduceSub, List.cons_append, List.nil_append, bin_sub, bin_lss, bin_gtr, w64, if_true, decide_true, decide_false, and_true, capA, appzA, lenA, h1, Int.sub_zero, Int.sub_self, h2, h4, appzA, h3, Int.toNat_natCast, h5]
    exact gc_all
def catZ (zs : List (AV × List Int)) : List Int := zs.flatMap Prod.snd
def lenZ (zs : List (AV × List Int)) : Int := (zs.map fun z => (z.2.length : Int)).sum
theorem catZ_take {zs : List (AV × List Int)} {i : Nat} {z : AV × List Int} (hz : zs[i]? = some z) : catZ (zs.take (i + 1)) = catZ (zs.take i) ++ z.2 := by
  rw [List.take_add_one, hz]; simp [catZ]
theorem lenZ_take {zs : List (AV × List Int)} {i : Nat} {z : AV × List Int} (hz : zs[i]? = some z) : lenZ (zs.take (i + 1)) = lenZ (zs.take i) + z.2.length := by
  rw [List.take_add_one, hz]; simp [lenZ]
theorem lenZ_bound : ∀ {zs : List (AV × List Int)}, (∀ z ∈ zs, z.2.length ≤ 100) → 0 ≤ lenZ zs ∧ lenZ zs ≤ 100 * zs.length ∧ ((catZ zs).length : Int) = lenZ zs
  | [], _ => by simp [lenZ, catZ]
  | z :: zs, h => by
    have ih := lenZ_bound (zs := zs) (fun y hy => h y (by simp [hy]))
    have hz := h z (by simp)
    have q1 : lenZ (z :: zs) = z.2.length + lenZ zs := by simp [lenZ]
    have q2 : (catZ (z :: zs)).length = z.2.length + (catZ zs).length := by simp [catZ]
    rw [q1, q2, List.length_cons]
    omega
theorem c_Concat {zs : List (AV × List Int)} {u : AV} {A : AHeap} (hz0 : Ls 1 e0 A u zs) (hin : ∀ z ∈ zs, L1 A z.1 z.2) (hl : zs.length ≤ 8) (hb : ∀ z ∈ zs, z.2.length ≤ 100) (hne : 0 < (catZ zs).length) :
    ∃ r H, ACalls Try.prog 93 [u] A r H ∧ A <+: H ∧ L1 H r (catZ zs) := by
  refine acallsR hmix Try.func93 (by kernel_rfl) t93 _ 1 rfl (by decide) ?_
  have hbt : ∀ i, 0 ≤ lenZ (zs.take i) ∧ lenZ (zs.take i) ≤ 800 := fun i => by
    have := lenZ_bound (zs := zs.take i) (fun z hz => hb z (List.mem_of_mem_take hz))
    rw [List.length_take] at this
    omega
  dsimp only [m93]
  simp (maxSteps := 4000000) -implicitDefEqProofs -dsimp (disch := omega) only [↓AW_ops, ↓AW_seq, ↓AW_block, ↓AOps_nil, ↓AOps_pu, on_some, ↓then_normal, pval, rd_S, rd_C, put_S, ↓AW_toLoop, List.replicate_succ, List.replicate_zero, List.set_cons_zero, List.set_cons_succ, List.getElem?_cons_zero, List.getElem?_cons_succ, Option.getD_some, Nat.reduceSub, List.cons_append, List.nil_append, hz0.len]
  refine LoopK.by 36 (fun i : Nat => i ≤ zs.length) (fun i => [(0, u), (3, I (lenZ (zs.take i))), (9, u), (10, I zs.length), (11, I i)]) (fun _ => A) (fun i => zs.length - i) 0 (by omega) rfl (by simp [Has, rd_s, lenZ]) rfl ?_
  intro i hi
  by_cases hlt : i < zs.length
  · obtain ⟨z, hz⟩ : ∃ z, zs[i]? = some z := ⟨_, List.getElem?_eq_getElem hlt⟩
    have hlt' : (i : Int) < zs.length := by omega
    have h1 := hbt i
    have h2 := hbt (i + 1)
    have ht := lenZ_take hz
    have h3 : ¬ lenZ (zs.take i) + z.2.length < 0 := by omega
    simp (maxSteps := 4000000) -implicitDefEqProofs -dsimp (disch := omega) only [↓AW_skip, ↓AW_ops, ↓AW_seq, ↓AW_cond, ↓AW_block, ↓AOps_nil, ↓AOps_pu, ↓AOps_ld, on_some, condB_t, condB_f, ↓then_normal, ↓inBlock_normal, pval, lval, rd_S, rd_C, put_S, partA, eq_self, mk, List.foldl_cons, List.foldl_nil, List.replicate_succ, List.replicate_zero, List.set_cons_zero, List.set_cons_succ, List.getElem?_cons_zero, List.getElem?_cons_succ, List.drop_zero, List.take_succ_cons, List.take_nil, Option.getD_some, List.length_cons, List.length_nil, Nat.reduceAdd, Nat.reduceLeDiff, Nat.zero_add, bin_add, bin_lss, w64, if_true, if_false, Bool.false_eq_true, decide_true, decide_false, true_and, hlt', hz0.idx hlt, hz0.ld0 hz 1 false (by decide), e0, (hin z (List.mem_of_getElem? hz)).len, h3]
    exact ⟨i + 1, hlt, by simp [Has, rd_s, ht], by omega⟩
  have hlt' : ¬ ((i : Int) < zs.length) := by omega
  have h1 := hbt zs.length
  rw [List.take_length] at h1
  rw [List.take_of_length_le (by omega)]
  obtain ⟨N, hN⟩ : ∃ N : Nat, lenZ zs = N := ⟨(lenZ zs).toNat, by omega⟩
  rw [hN] at h1 ⊢
  obtain ⟨v, H, hc, hns⟩ := c_Grow N (by omega) A
  simp (maxSteps := 4000000) -implicitDefEqProofs -dsimp (disch := omega) only [↓AW_ops, ↓AW_seq, ↓AW_cond, ↓AW_exit, ↓AOps_nil, ↓AOps_pu, ↓AOps_call, on_some, condB_f, ↓then_normal, ↓then_exit, ↓inBlock_exit, pval, rd_S, rd_C, put_S, eq_self, mk, List.foldl_cons, List.foldl_nil, List.replicate_succ, List.replicate_zero, List.set_cons_zero, List.set_cons_succ, List.getElem?_cons_zero, List.getElem?_cons_succ, Option.getD_some, map_c, map_n, bin_lss, if_true, decide_false, hlt']
  refine CallK.of (hc) ?_
  simp (maxSteps := 4000000) -implicitDefEqProofs -dsimp (disch := omega) only [↓AW_ops, ↓AW_seq, ↓AW_block, ↓AOps_nil, ↓AOps_pu, on_some, extK_false, ↓then_normal, pval, rd_S, rd_C, put_S, ↓AW_toLoop, mk, List.foldl_cons, List.foldl_nil, List.replicate_succ, List.replicate_zero, List.set_cons_zero, List.set_cons_succ, List.getElem?_cons_zero, List.getElem?_cons_succ, Option.getD_some, hz0.len]
  have hcl : ∀ i, ((catZ (zs.take i)).length : Int) ≤ 800 := fun i => by
    have := lenZ_bound (zs := zs.take i) (fun z hz => hb z (List.mem_of_mem_take hz))
    rw [List.length_take] at this
    omega
  refine LoopK.by 36 (fun x : Nat × AV × AHeap => x.1 ≤ zs.length ∧ NS A x.2.2 x.2.1 (catZ (zs.take x.1))) (fun x => [(6, x.2.1), (25, u), (26, I zs.length), (27, I x.1)]) (fun x => x.2.2) (fun x => zs.length - x.1) (0, v, H) ⟨by simp only; omega, hns⟩ rfl (by simp [Has, rd_s]) rfl ?_
  rintro ⟨j, w, H1⟩ ⟨hj, hw⟩
  simp only at hj hw
  by_cases hlt2 : j < zs.length
  · obtain ⟨z, hz⟩ : ∃ z, zs[j]? = some z := ⟨_, List.getElem?_eq_getElem hlt2⟩
    have hlt2' : (j : Int) < zs.length := by omega
    have hz1 := hz0.mono hw.pre
    have hzl := hb z (List.mem_of_getElem? hz)
    have hc2 := hcl j
    obtain ⟨w', H2, happ, hw'⟩ := hw.push ((hin z (List.mem_of_getElem? hz)).mono hw.pre) (by simp [lim]; omega)
    simp (maxSteps := 4000000) -implicitDefEqProofs -dsimp (disch := omega) only [↓AW_skip, ↓AW_ops, ↓AW_seq, ↓AW_cond, ↓AW_block, ↓AOps_nil, ↓AOps_pu, ↓AOps_ld, ↓AOps_ha, on_some, extK_false, condB_t, ↓then_normal, ↓inBlock_normal, pval, lval, hval_app, rd_S, rd_C, put_S, partA, eq_self, mk, List.foldl_cons, List.foldl_nil, List.replicate_succ, List.replicate_zero, List.set_cons_zero, List.set_cons_succ, List.getElem?_cons_zero, List.getElem?_cons_succ, List.drop_zero, List.take_succ_cons, List.take_nil, Option.getD_some, List.length_cons, List.length_nil, Nat.reduceAdd, Nat.reduceLeDiff, Nat.zero_add, bin_add, bin_lss, w64, if_true, if_false, Bool.false_eq_true, decide_true, true_and, hlt2', hz1.idx hlt2, hz1.ld0 hz 1 false (by decide), e0, happ]
    exact ⟨(j + 1, w', H2), ⟨hlt2, by rw [catZ_take hz]; exact hw'⟩, by simp [Has, rd_s], rfl, by simp only; omega⟩
  · have hlt2' : ¬ ((j : Int) < zs.length) := by omega
    rw [List.take_of_length_le (by omega)] at hw
    simp (maxSteps := 4000000) -implicitDefEqProofs -dsimp (disch := omega) only [↓AW_ops, ↓AW_seq, ↓AW_cond, ↓AW_exit, ↓AW_ret, ↓AOps_nil, ↓AOps_pu, on_some, condB_f, ↓then_normal, ↓then_exit, ↓inBlock_exit, ↓FinR_ret, pval, rd_S, put_S, resV, resL, eq_self, mk, List.foldl_cons, List.foldl_nil, List.replicate_succ, List.replicate_zero, List.set_cons_zero, List.set_cons_succ, List.getElem?_cons_zero, List.getElem?_cons_succ, Option.getD_some, bin_lss, if_true, decide_false, hlt2']
    rcases hw with hw | ⟨he, _⟩
    · exact ⟨_, _, gc_all, AccL.pre hw, AccL_ls hw e1_len⟩
    · rw [he] at hne; simp at hne
theorem ll_two (H : AHeap) (x y : AV × List Int) : Ls 1 e0 (H ++ [.cells true [x.1, y.1]]) (.sl 1 H.length 0 2 true) [x, y] := ⟨e0_len, by simp [slCells, cellsAt, e0]⟩
theorem two_in {H : AHeap} {o : AObj} {x y : AV} {xs ys : List Int} (hx : L1 H x xs) (hy : L1 H y ys) : ∀ z ∈ [(x, xs), (y, ys)], L1 (H ++ [o]) z.1 z.2 := fun z hz => by
  rcases List.mem_cons.1 hz with e | e
  · rw [e]; exact hx.mono (pre_app _ _)
  · rw [List.mem_singleton.1 e]; exact hy.mono (pre_app _ _)
theorem two_len {x y : AV} {k : Int} {ys : List Int} (h : ys.length ≤ 100) : ∀ z ∈ [(x, [k]), (y, ys)], z.2.length ≤ 100 := fun z hz => by
  rcases List.mem_cons.1 hz with e | e
  · rw [e]; simp
  · rw [List.mem_singleton.1 e]; exact h
theorem st_new {H : AHeap} {x : AV} (h : x.cells? = some [x]) : stA 1 (.ptr H.length 0) x (H ++ [.cells true [.nilS]]) = some (H ++ [.cells true [x]]) := by
  simp [stA, h, splice]
section
variable {P : Nat} {rs : List Rd} {ks : List Int} {u v : AV} {A : AHeap}
set_option maxRecDepth 20000 in
set_option maxHeartbeats 16000000 in
theorem s92 {a b c : Nat} {lv gv : AV} {L : List Int} {k : Int} (hu : L3 A u rs) (hn : Net P rs) (hO : Ord rs L) (hk : 0 ≤ k ∧ k ≤ (rs.length : Int) - 1) (h1 : ldA 2 true (.ptr a 0) A = some (.agg [I P, u])) (h2 : ldA 1 false (.ptr b 0) A = some lv) (h3 : ldA 1 false (.ptr c 0) A = some gv) (hL : L1 A lv L) (hG : L1 A gv (srt (grw (rdx rs) [] L))) :
    ACalls Try.prog 92 ([I k] ++ [.ptr a 0, .ptr b 0, .ptr c 0]) A (B (decide (nev P rs k))) A := by
  have hl14 := hn.l
  have hP7 := hn.p7
  rw [List.singleton_append, nev_dec hn hO hk]
  refine acalls hmix Try.func92 (by kernel_rfl) t92 4 rfl (by decide) ?_
  have h2k := ld_mono (pre_app A [AObj.cells true [I k]]) h2
  dsimp only [m92]
  simp (maxSteps := 4000000) -implicitDefEqProofs -dsimp (disch := omega) only [↓AW_ops, ↓AW_seq, ↓AOps_nil, ↓AOps_pu, ↓AOps_ld, ↓AOps_ha, ↓AOps_call, on_some, extK_app, ↓then_normal, pval, lval, hval_blds, rd_S, rd_C, put_S, cells_int, splice, fillA, repl, eq_self, List.replicate_succ, List.replicate_zero, List.set_cons_zero, List.set_cons_succ, List.getElem?_cons_zero, List.getElem?_cons_succ, List.drop_succ_cons, List.drop_nil, List.take_zero, Option.getD_some, map_c, map_n, List.length_cons, List.length_nil, Nat.reduceSub, Nat.reduceLeDiff, Nat.zero_add, List.cons_append, List.nil_append, List.append_nil, if_true, and_true, ↓AW_ops2, h1, h2, h2k, List.replicate_zero, repl]
  obtain ⟨hmn, hmd, hkm, hml⟩ := kfirst hn hO hk
  have hwn : Nos rs (without L k) := fun i hi => hO.nos i (mem_wo.1 hi).1
  have hwl := without_le L k
  rw [hO.len] at hwl
  have hpk := pre_app A [AObj.cells true [I k]]
  refine ⟨?_, ?_⟩
  · obtain ⟨r1, H1, c1, p1, hW⟩ := s63 (hL.mono hpk) (by rw [hO.len]; omega) (by rw [hO.len]; omega) k
    refine CallK.of c1 ?_
    have hc := Ls_cells hW
    have hpX := hpk.trans p1
    have hK := (L1_one A k).mono p1
    simp (maxSteps := 4000000) -implicitDefEqProofs -dsimp (disch := omega) only [↓AOps_ha, ↓AOps_call, on_some, extK_app, hval_blds, rd_S, put_S, cells_sl, splice, fillA, repl, eq_self, List.replicate_succ, List.replicate_zero, List.set_cons_zero, List.set_cons_succ, List.getElem?_cons_zero, List.getElem?_cons_succ, List.drop_zero, List.drop_succ_cons, List.drop_nil, List.take_zero, List.take_succ_cons, Option.getD_some, map_c, map_n, List.length_cons, List.length_nil, Nat.reduceAdd, Nat.reduceSub, Nat.reduceLeDiff, Nat.zero_add, List.cons_append, List.nil_append, List.append_nil, if_true, and_true, extK_of p1, hc, List.replicate_zero, repl]
    obtain ⟨r3, H3, c3, p3, hM⟩ := c_Concat (ll_two H1 (.sl 1 A.length 0 1 true, [k]) (r1, without L k)) (two_in hK hW) (by simp) (two_len (by omega)) (by simp [catZ])
    refine CallK.of c3 ?_
    have hcat : catZ [((.sl 1 A.length 0 1 true : AV), [k]), (r1, without L k)] = k :: without L k := by simp [catZ]
    rw [hcat] at hM
    have hpY := hpX.trans ((pre_app _ _).trans p3)
    simp (maxSteps := 4000000) -implicitDefEqProofs -dsimp (disch := omega) only [↓AOps_call, rd_S, put_S, List.replicate_succ, List.replicate_zero, List.set_cons_zero, List.set_cons_succ, List.getElem?_cons_zero, List.getElem?_cons_succ, Option.getD_some, map_c, map_n, Nat.reduceSub, List.cons_append, List.nil_append, extK_of p3]
    obtain ⟨r2, H2, c2, p2, hG2⟩ := c_grow (hu.mono hpY) hM hn hmn (by rw [List.length_cons]; omega)
    refine CallK.of c2 ?_
    have hp := hpY.trans p2
    have h1' := ld_mono hp h1
    have h3' := ld_mono hp h3
    have huH := hu.mono hp
    have hgn : Nos rs (srt (grw (rdx rs) [] (k :: without L k))) := fun i hi => grw_nos hmn i ((srt_perm _).mem_iff.1 hi)
    have hgn2 : Nos rs (srt (grw (rdx rs) [] L)) := fun i hi => grw_nos hO.nos i ((srt_perm _).mem_iff.1 hi)
    have hsm := grw_small hn hmn
    have hsm2 := grw_small hn hO.nos
    simp (maxSteps := 4000000) -implicitDefEqProofs -dsimp (disch := omega) only [↓AW_ops, ↓AW_seq, ↓AOps_nil, ↓AOps_pu, ↓AOps_ld, ↓AOps_call, on_some, extK_false, ↓then_normal, pval, lval, rd_S, put_S, List.replicate_succ, List.replicate_zero, List.set_cons_zero, List.set_cons_succ, List.getElem?_cons_zero, List.getElem?_cons_succ, Option.getD_some, map_c, map_n, Nat.reduceSub, List.cons_append, List.nil_append, h1']
    refine CallK.of (s60 huH hG2 hn hgn (by rw [srt_len]; omega)) ?_
    have htt : decide (Tree P (rdx rs) (srt (grw (rdx rs) [] (k :: without L k)))) = decide (Tree P (rdx rs) (grw (rdx rs) [] (k :: without L k))) := decide_eq_decide.2 ⟨fun h => h.perm (srt_perm _).symm, fun h => h.perm (srt_perm _)⟩
    rw [htt]
    by_cases ht : Tree P (rdx rs) (grw (rdx rs) [] (k :: without L k))
    · rw [decide_eq_true ht]
      simp (maxSteps := 4000000) -implicitDefEqProofs -dsimp (disch := omega) only [↓AOps_pu, ↓AOps_ld, ↓AOps_call, ↓AOps_guard, on_some, extK_same, guardB_ff, pval, lval, rd_S, put_S, List.replicate_succ, List.replicate_zero, List.set_cons_zero, List.set_cons_succ, List.getElem?_cons_zero, List.getElem?_cons_succ, Option.getD_some, map_c, map_n, Nat.reduceSub, List.cons_append, List.nil_append, Bool.not_true, h1']
      refine CallK.of (s79 huH hG2 hn hgn (by rw [srt_len]; omega)) ?_
      simp (maxSteps := 4000000) -implicitDefEqProofs -dsimp (disch := omega) only [↓AOps_ld, ↓AOps_call, ↓AOps_guard, on_some, extK_same, guardB_ff, lval, rd_S, put_S, List.replicate_succ, List.replicate_zero, List.set_cons_zero, List.set_cons_succ, List.getElem?_cons_zero, List.getElem?_cons_succ, Option.getD_some, map_c, map_n, Nat.reduceSub, List.cons_append, List.nil_append, h1', h3']
      refine CallK.of (s79 huH (hG.mono hp) hn hgn2 (by rw [srt_len]; omega)) ?_
      rw [cst_perm (srt_perm _), cst_perm (srt_perm _)]
      simp (maxSteps := 4000000) -implicitDefEqProofs -dsimp (disch := omega) only [↓AW_ret, ↓AOps_nil, ↓AOps_pu, ↓AOps_guard, on_some, extK_same, guardB_ff, ↓then_normal, ↓Fin_ret, pval, rd_S, rd_C, put_S, resV, resL, List.replicate_succ, List.replicate_zero, List.set_cons_zero, List.set_cons_succ, List.getElem?_cons_zero, List.getElem?_cons_succ, Option.getD_some, Nat.reduceSub, List.cons_append, List.nil_append, bin_gtr, if_false, Bool.false_eq_true, Bool.not_true]
      exact gc_val hp rfl
    · rw [decide_eq_false ht]
      simp (maxSteps := 4000000) -implicitDefEqProofs -dsimp (disch := omega) only [↓AW_ret, ↓AOps_nil, ↓AOps_pu, ↓AOps_guard, on_some, extK_same, guardB_tf, skipS_some, ↓then_normal, ↓Fin_ret, pval, rd_S, rd_C, put_S, resV, resL, eq_self, List.replicate_succ, List.replicate_zero, List.set_cons_zero, List.set_cons_succ, List.getElem?_cons_zero, List.getElem?_cons_succ, Option.getD_some, Nat.reduceSub, List.cons_append, List.nil_append, if_true, Bool.not_false]
      exact gc_val hp rfl
  · obtain ⟨r1, H1, c1, p1, hW⟩ := s63 hL (by rw [hO.len]; omega) (by rw [hO.len]; omega) k
    refine CallK.of c1 ?_
    have hc := Ls_cells hW
    have hK := L1_one H1 k
    have hpX := p1.trans (pre_app H1 [AObj.cells true [I k]])
    simp (maxSteps := 4000000) -implicitDefEqProofs -dsimp (disch := omega) only [↓AOps_ha, ↓AOps_call, on_some, extK_app, hval_blds, rd_S, put_S, cells_int, cells_sl, splice, fillA, repl, eq_self, List.replicate_succ, List.replicate_zero, List.set_cons_zero, List.set_cons_succ, List.getElem?_cons_zero, List.getElem?_cons_succ, List.drop_zero, List.drop_succ_cons, List.drop_nil, List.take_zero, List.take_succ_cons, Option.getD_some, map_c, map_n, List.length_cons, List.length_nil, Nat.reduceAdd, Nat.reduceSub, Nat.reduceLeDiff, Nat.zero_add, List.cons_append, List.nil_append, List.append_nil, if_true, and_true, extK_of p1, hc, List.replicate_zero, repl]
    obtain ⟨r3, H3, c3, p3, hM⟩ := c_Concat (ll_two (H1 ++ [AObj.cells true [I k]]) (.sl 1 H1.length 0 1 true, [k]) (r1, without L k)) (two_in hK (hW.mono (pre_app _ _))) (by simp) (two_len (by omega)) (by simp [catZ])
    refine CallK.of c3 ?_
    have hcat : catZ [((.sl 1 H1.length 0 1 true : AV), [k]), (r1, without L k)] = k :: without L k := by simp [catZ]
    rw [hcat] at hM
    have hpY := hpX.trans ((pre_app _ _).trans p3)
    simp (maxSteps := 4000000) -implicitDefEqProofs -dsimp (disch := omega) only [↓AOps_call, rd_S, put_S, List.replicate_succ, List.replicate_zero, List.set_cons_zero, List.set_cons_succ, List.getElem?_cons_zero, List.getElem?_cons_succ, Option.getD_some, map_c, map_n, Nat.reduceSub, List.cons_append, List.nil_append, extK_of p3]
    obtain ⟨r2, H2, c2, p2, hG2⟩ := c_grow (hu.mono hpY) hM hn hmn (by rw [List.length_cons]; omega)
    refine CallK.of c2 ?_
    have hp := hpY.trans p2
    have h1' := ld_mono hp h1
    have h3' := ld_mono hp h3
    have huH := hu.mono hp
    have hgn : Nos rs (srt (grw (rdx rs) [] (k :: without L k))) := fun i hi => grw_nos hmn i ((srt_perm _).mem_iff.1 hi)
    have hgn2 : Nos rs (srt (grw (rdx rs) [] L)) := fun i hi => grw_nos hO.nos i ((srt_perm _).mem_iff.1 hi)
    have hsm := grw_small hn hmn
    have hsm2 := grw_small hn hO.nos
    simp (maxSteps := 4000000) -implicitDefEqProofs -dsimp (disch := omega) only [↓AW_ops, ↓AW_seq, ↓AOps_nil, ↓AOps_pu, ↓AOps_ld, ↓AOps_call, on_some, extK_false, ↓then_normal, pval, lval, rd_S, put_S, List.replicate_succ, List.replicate_zero, List.set_cons_zero, List.set_cons_succ, List.getElem?_cons_zero, List.getElem?_cons_succ, Option.getD_some, map_c, map_n, Nat.reduceSub, List.cons_append, List.nil_append, h1']
    refine CallK.of (s60 huH hG2 hn hgn (by rw [srt_len]; omega)) ?_
    have htt : decide (Tree P (rdx rs) (srt (grw (rdx rs) [] (k :: without L k)))) = decide (Tree P (rdx rs) (grw (rdx rs) [] (k :: without L k))) := decide_eq_decide.2 ⟨fun h => h.perm (srt_perm _).symm, fun h => h.perm (srt_perm _)⟩
    rw [htt]
    by_cases ht : Tree P (rdx rs) (grw (rdx rs) [] (k :: without L k))
    · rw [decide_eq_true ht]
      simp (maxSteps := 4000000) -implicitDefEqProofs -dsimp (disch := omega) only [↓AOps_pu, ↓AOps_ld, ↓AOps_call, ↓AOps_guard, on_some, extK_same, guardB_ff, pval, lval, rd_S, put_S, List.replicate_succ, List.replicate_zero, List.set_cons_zero, List.set_cons_succ, List.getElem?_cons_zero, List.getElem?_cons_succ, Option.getD_some, map_c, map_n, Nat.reduceSub, List.cons_append, List.nil_append, Bool.not_true, h1']
      refine CallK.of (s79 huH hG2 hn hgn (by rw [srt_len]; omega)) ?_
      simp (maxSteps := 4000000) -implicitDefEqProofs -dsimp (disch := omega) only [↓AOps_ld, ↓AOps_call, ↓AOps_guard, on_some, extK_same, guardB_ff, lval, rd_S, put_S, List.replicate_succ, List.replicate_zero, List.set_cons_zero, List.set_cons_succ, List.getElem?_cons_zero, List.getElem?_cons_succ, Option.getD_some, map_c, map_n, Nat.reduceSub, List.cons_append, List.nil_append, h1', h3']
      refine CallK.of (s79 huH (hG.mono hp) hn hgn2 (by rw [srt_len]; omega)) ?_
      rw [cst_perm (srt_perm _), cst_perm (srt_perm _)]
      simp (maxSteps := 4000000) -implicitDefEqProofs -dsimp (disch := omega) only [↓AW_ret, ↓AOps_nil, ↓AOps_pu, ↓AOps_guard, on_some, extK_same, guardB_ff, ↓then_normal, ↓Fin_ret, pval, rd_S, rd_C, put_S, resV, resL, List.replicate_succ, List.replicate_zero, List.set_cons_zero, List.set_cons_succ, List.getElem?_cons_zero, List.getElem?_cons_succ, Option.getD_some, Nat.reduceSub, List.cons_append, List.nil_append, bin_gtr, if_false, Bool.false_eq_true, Bool.not_true]
      exact gc_val hp rfl
    · rw [decide_eq_false ht]
      simp (maxSteps := 4000000) -implicitDefEqProofs -dsimp (disch := omega) only [↓AW_ret, ↓AOps_nil, ↓AOps_pu, ↓AOps_guard, on_some, extK_same, guardB_tf, skipS_some, ↓then_normal, ↓Fin_ret, pval, rd_S, rd_C, put_S, resV, resL, eq_self, List.replicate_succ, List.replicate_zero, List.set_cons_zero, List.set_cons_succ, List.getElem?_cons_zero, List.getElem?_cons_succ, Option.getD_some, Nat.reduceSub, List.cons_append, List.nil_append, if_true, Bool.not_false]
      exact gc_val hp rfl
end
section
variable {Q : Int} {rs : List Rd} {ks : List Int} {u v : AV} {A : AHeap}
/-- The roads that all, or none, of the cheapest trees have. -/
noncomputable def alL (Q : Int) (rs : List Rd) : List Int := if vE Q rs = 0 then (nums rs).filter (fun i => decide (alw Q.toNat rs i)) else []
noncomputable def neL (Q : Int) (rs : List Rd) : List Int := if vE Q rs = 0 then (nums rs).filter (fun i => decide (nev Q.toNat rs i)) else []
set_option maxRecDepth 20000 in
set_option maxHeartbeats 16000000 in
theorem s45 (hu : L3 A u rs) (hW : W Q) : ∃ r H, ACalls Try.prog 45 [.agg [I Q, u]] A (.tuple [r, I (vE Q rs)]) H ∧ A <+: H ∧ L1 H r (alL Q rs) := by
  have key : ∃ t H, ACalls Try.prog 45 [.agg [I Q, u]] A t H ∧ ∃ r, t = .tuple [r, I (vE Q rs)] ∧ A <+: H ∧ L1 H r (alL Q rs) := by
    refine acallsR hmix Try.func45 (by kernel_rfl) t45 _ 1 rfl (by decide) ?_
    have hpA := pre_app A [AObj.cells true [I Q, u]]
    have hla : ldA 2 true (.ptr A.length 0) (A ++ [AObj.cells true [I Q, u]]) = some (.agg [I Q, u]) := by simp [ldA, partA]
    have hu1 := hu.mono hpA
    dsimp only [m45]
    simp (maxSteps := 4000000) -implicitDefEqProofs -dsimp (disch := omega) only [↓AW_ops, ↓AW_seq, ↓AOps_nil, ↓AOps_pu, ↓AOps_ld, ↓AOps_ha, ↓AOps_call, on_some, extK_app, ↓then_normal, pval, lval, hval_newv, rd_S, rd_C, put_S, cells_agg, List.replicate_succ, List.replicate_zero, List.set_cons_zero, List.set_cons_succ, List.getElem?_cons_zero, List.getElem?_cons_succ, Option.getD_some, map_c, map_n, Nat.reduceSub, List.cons_append, List.nil_append, hla]
    refine CallK.of (s28 hu1 hW) ?_
    by_cases h0 : vE Q rs = 0
    case neg =>
      have hA0 : alL Q rs = [] := if_neg h0
      rw [hA0]
      simp (maxSteps := 4000000) -implicitDefEqProofs -dsimp (disch := omega) only [↓AW_ops, ↓AW_seq, ↓AW_cond, ↓AW_ret, ↓AOps_nil, ↓AOps_pu, on_some, extK_same, condB_t, ↓then_normal, ↓then_ret, ↓FinR_ret, pval, rd_S, rd_C, put_S, resV, resL, List.replicate_succ, List.replicate_zero, List.set_cons_zero, List.set_cons_succ, List.getElem?_cons_zero, List.getElem?_cons_succ, Option.getD_some, Nat.reduceSub, List.cons_append, List.nil_append, bin_neq, decide_true, not_false_eq_true, h0]
      exact ⟨_, _, gc_all, _, rfl, hpA, L1_nil _⟩
    have hn := vE_0.1 h0
    obtain ⟨P, rfl⟩ := hn.nat
    have hl14 := hn.l
    have hP7 := hn.p7
    have hA1 : alL P rs = (nums rs).filter (fun i => decide (alw P rs i)) := if_pos h0
    rw [h0, hA1]
    simp (maxSteps := 4000000) -implicitDefEqProofs -dsimp (disch := omega) only [↓AW_skip, ↓AW_ops, ↓AW_seq, ↓AW_cond, ↓AOps_nil, ↓AOps_pu, ↓AOps_ld, ↓AOps_call, on_some, extK_same, condB_f, ↓then_normal, pval, lval, rd_S, rd_C, put_S, eq_self, List.replicate_succ, List.replicate_zero, List.set_cons_zero, List.set_cons_succ, List.getElem?_cons_zero, List.getElem?_cons_succ, Option.getD_some, map_c, map_n, Nat.reduceSub, List.cons_append, List.nil_append, bin_neq, decide_false, not_true_eq_false, hla]
    generalize A ++ [AObj.cells true [I P, u]] = A1 at hpA hla hu1 ⊢
    obtain ⟨r1, H1, c1, p1, L, hL, hO⟩ := c_all hu1 hn
    refine CallK.of c1 ?_
    have hst := st_new (H := H1) (Ls_cells hL)
    have hp2 := p1.trans (pre_app H1 [AObj.cells true [r1]])
    have hL2 := hL.mono (pre_app H1 [AObj.cells true [r1]])
    have hlb : ldA 1 false (.ptr H1.length 0) (H1 ++ [AObj.cells true [r1]]) = some r1 := by simp [ldA, partA]
    have hla2 := ld_mono hp2 hla
    have hu2 := hu1.mono hp2
    simp (maxSteps := 4000000) -implicitDefEqProofs -dsimp (disch := omega) only [↓AW_ops, ↓AW_seq, ↓AOps_nil, ↓AOps_ld, ↓AOps_ha, ↓AOps_call, on_some, extK_false, extK_app, ↓then_normal, lval, hval_st, hval_newv, rd_S, rd_C, put_S, putS_none, cells_nilS, List.replicate_succ, List.replicate_zero, List.set_cons_zero, List.set_cons_succ, List.getElem?_cons_zero, List.getElem?_cons_succ, Option.getD_some, Option.map_some, map_c, map_n, Nat.reduceSub, List.cons_append, List.nil_append, hst, hla2, hlb]
    generalize H1 ++ [AObj.cells true [r1]] = H2 at hp2 hL2 hlb hla2 hu2 ⊢
    obtain ⟨r2, H3, c3, p3, hG⟩ := c_grow hu2 hL2 hn hO.nos (by rw [hO.len]; omega)
    refine CallK.of c3 ?_
    have hst2 := st_new (H := H3) (Ls_cells hG)
    have hp4 := p3.trans (pre_app H3 [AObj.cells true [r2]])
    have hlc : ldA 1 false (.ptr H3.length 0) (H3 ++ [AObj.cells true [r2]]) = some r2 := by simp [ldA, partA]
    have hla4 := ld_mono hp4 hla2
    have hlb4 := ld_mono hp4 hlb
    have hu4 := hu2.mono hp4
    have hL4 := hL2.mono hp4
    have hG4 := hG.mono (pre_app H3 [AObj.cells true [r2]])
    simp (maxSteps := 4000000) -implicitDefEqProofs -dsimp (disch := omega) only [↓AW_ops, ↓AW_seq, ↓AOps_nil, ↓AOps_pu, ↓AOps_ld, ↓AOps_ha, ↓AOps_call, on_some, extK_false, extK_app, ↓then_normal, pval, lval, hval_st, hval_newv, rd_S, rd_C, put_S, putS_none, cells_nilS, List.replicate_succ, List.replicate_zero, List.set_cons_zero, List.set_cons_succ, List.getElem?_cons_zero, List.getElem?_cons_succ, Option.getD_some, Option.map_some, map_c, map_n, Nat.reduceSub, List.cons_append, List.nil_append, hst2, hla4]
    generalize H3 ++ [AObj.cells true [r2]] = H4 at hp4 hlc hla4 hlb4 hu4 hL4 hG4 ⊢
    obtain ⟨r, H5, c5, p5, hR⟩ := s89 (P := P) hu4 (by omega) 90 [.ptr A.length 0, .ptr H1.length 0, .ptr H3.length 0] (fun i => decide (alw P rs i)) (fun H hH i i0 i1 => s90 (hu4.mono hH) hn hO ⟨i0, by omega⟩ (ld_mono hH hla4) (ld_mono hH hlb4) (ld_mono hH hlc) (hL4.mono hH) (hG4.mono hH))
    refine CallK.of c5 ?_
    simp (maxSteps := 4000000) -implicitDefEqProofs -dsimp (disch := omega) only [↓AW_ret, ↓AOps_nil, ↓AOps_pu, on_some, extK_false, ↓then_normal, ↓FinR_ret, pval, rd_S, rd_C, put_S, putS_none, resV, resL, List.replicate_succ, List.replicate_zero, List.set_cons_zero, List.set_cons_succ, List.getElem?_cons_zero, List.getElem?_cons_succ, Option.getD_some, Nat.reduceSub, List.cons_append, List.nil_append]
    exact ⟨_, _, gc_all, _, rfl, hpA.trans (hp2.trans (hp4.trans p5)), hR⟩
  obtain ⟨t, H, h1, r, rfl, h2⟩ := key
  exact ⟨r, H, h1, h2⟩
set_option maxRecDepth 20000 in
set_option maxHeartbeats 16000000 in
theorem s47 (hu : L3 A u rs) (hW : W Q) : ∃ r H, ACalls Try.prog 47 [.agg [I Q, u]] A (.tuple [r, I (vE Q rs)]) H ∧ A <+: H ∧ L1 H r (neL Q rs) := by
  have key : ∃ t H, ACalls Try.prog 47 [.agg [I Q, u]] A t H ∧ ∃ r, t = .tuple [r, I (vE Q rs)] ∧ A <+: H ∧ L1 H r (neL Q rs) := by
    refine acallsR hmix Try.func47 (by kernel_rfl) t47 _ 1 rfl (by decide) ?_
    have hpA := pre_app A [AObj.cells true [I Q, u]]
    have hla : ldA 2 true (.ptr A.length 0) (A ++ [AObj.cells true [I Q, u]]) = some (.agg [I Q, u]) := by simp [ldA, partA]
    have hu1 := hu.mono hpA
    dsimp only [m47]
    simp (maxSteps := 4000000) -implicitDefEqProofs -dsimp (disch := omega) only [↓AW_ops, ↓AW_seq, ↓AOps_nil, ↓AOps_pu, ↓AOps_ld, ↓AOps_ha, ↓AOps_call, on_some, extK_app, ↓then_normal, pval, lval, hval_newv, rd_S, rd_C, put_S, cells_agg, List.replicate_succ, List.replicate_zero, List.set_cons_zero, List.set_cons_succ, List.getElem?_cons_zero, List.getElem?_cons_succ, Option.getD_some, map_c, map_n, Nat.reduceSub, List.cons_append, List.nil_append, hla]
    refine CallK.of (s28 hu1 hW) ?_
    by_cases h0 : vE Q rs = 0
    case neg =>
      have hA0 : neL Q rs = [] := if_neg h0
      rw [hA0]
      simp (maxSteps := 4000000) -implicitDefEqProofs -dsimp (disch := omega) only [↓AW_ops, ↓AW_seq, ↓AW_cond, ↓AW_ret, ↓AOps_nil, ↓AOps_pu, on_some, extK_same, condB_t, ↓then_normal, ↓then_ret, ↓FinR_ret, pval, rd_S, rd_C, put_S, resV, resL, List.replicate_succ, List.replicate_zero, List.set_cons_zero, List.set_cons_succ, List.getElem?_cons_zero, List.getElem?_cons_succ, Option.getD_some, Nat.reduceSub, List.cons_append, List.nil_append, bin_neq, decide_true, not_false_eq_true, h0]
      exact ⟨_, _, gc_all, _, rfl, hpA, L1_nil _⟩
    have hn := vE_0.1 h0
    obtain ⟨P, rfl⟩ := hn.nat
    have hl14 := hn.l
    have hP7 := hn.p7
    have hA1 : neL P rs = (nums rs).filter (fun i => decide (nev P rs i)) := if_pos h0
    rw [h0, hA1]
    simp (maxSteps := 4000000) -implicitDefEqProofs -dsimp (disch := omega) only [↓AW_skip, ↓AW_ops, ↓AW_seq, ↓AW_cond, ↓AOps_nil, ↓AOps_pu, ↓AOps_ld, ↓AOps_call, on_some, extK_same, condB_f, ↓then_normal, pval, lval, rd_S, rd_C, put_S, eq_self, List.replicate_succ, List.replicate_zero, List.set_cons_zero, List.set_cons_succ, List.getElem?_cons_zero, List.getElem?_cons_succ, Option.getD_some, map_c, map_n, Nat.reduceSub, List.cons_append, List.nil_append, bin_neq, decide_false, not_true_eq_false, hla]
    generalize A ++ [AObj.cells true [I P, u]] = A1 at hpA hla hu1 ⊢
    obtain ⟨r1, H1, c1, p1, L, hL, hO⟩ := c_all hu1 hn
    refine CallK.of c1 ?_
    have hst := st_new (H := H1) (Ls_cells hL)
    have hp2 := p1.trans (pre_app H1 [AObj.cells true [r1]])
    have hL2 := hL.mono (pre_app H1 [AObj.cells true [r1]])
    have hlb : ldA 1 false (.ptr H1.length 0) (H1 ++ [AObj.cells true [r1]]) = some r1 := by simp [ldA, partA]
    have hla2 := ld_mono hp2 hla
    have hu2 := hu1.mono hp2
    simp (maxSteps := 4000000) -implicitDefEqProofs -dsimp (disch := omega) only [↓AW_ops, ↓AW_seq, ↓AOps_nil, ↓AOps_ld, ↓AOps_ha, ↓AOps_call, on_some, extK_false, extK_app, ↓then_normal, lval, hval_st, hval_newv, rd_S, rd_C, put_S, putS_none, cells_nilS, List.replicate_succ, List.replicate_zero, List.set_cons_zero, List.set_cons_succ, List.getElem?_cons_zero, List.getElem?_cons_succ, Option.getD_some, Option.map_some, map_c, map_n, Nat.reduceSub, List.cons_append, List.nil_append, hst, hla2, hlb]
    generalize H1 ++ [AObj.cells true [r1]] = H2 at hp2 hL2 hlb hla2 hu2 ⊢
    obtain ⟨r2, H3, c3, p3, hG⟩ := c_grow hu2 hL2 hn hO.nos (by rw [hO.len]; omega)
    refine CallK.of c3 ?_
    have hst2 := st_new (H := H3) (Ls_cells hG)
    have hp4 := p3.trans (pre_app H3 [AObj.cells true [r2]])
    have hlc : ldA 1 false (.ptr H3.length 0) (H3 ++ [AObj.cells true [r2]]) = some r2 := by simp [ldA, partA]
    have hla4 := ld_mono hp4 hla2
    have hlb4 := ld_mono hp4 hlb
    have hu4 := hu2.mono hp4
    have hL4 := hL2.mono hp4
    have hG4 := hG.mono (pre_app H3 [AObj.cells true [r2]])
    simp (maxSteps := 4000000) -implicitDefEqProofs -dsimp (disch := omega) only [↓AW_ops, ↓AW_seq, ↓AOps_nil, ↓AOps_pu, ↓AOps_ld, ↓AOps_ha, ↓AOps_call, on_some, extK_false, extK_app, ↓then_normal, pval, lval, hval_st, hval_newv, rd_S, rd_C, put_S, putS_none, cells_nilS, List.replicate_succ, List.replicate_zero, List.set_cons_zero, List.set_cons_succ, List.getElem?_cons_zero, List.getElem?_cons_succ, Option.getD_some, Option.map_some, map_c, map_n, Nat.reduceSub, List.cons_append, List.nil_append, hst2, hla4]
    generalize H3 ++ [AObj.cells true [r2]] = H4 at hp4 hlc hla4 hlb4 hu4 hL4 hG4 ⊢
    obtain ⟨r, H5, c5, p5, hR⟩ := s89 (P := P) hu4 (by omega) 92 [.ptr A.length 0, .ptr H1.length 0, .ptr H3.length 0] (fun i => decide (nev P rs i)) (fun H hH i i0 i1 => s92 (hu4.mono hH) hn hO ⟨i0, by omega⟩ (ld_mono hH hla4) (ld_mono hH hlb4) (ld_mono hH hlc) (hL4.mono hH) (hG4.mono hH))
    refine CallK.of c5 ?_
    simp (maxSteps := 4000000) -implicitDefEqProofs -dsimp (disch := omega) only [↓AW_ret, ↓AOps_nil, ↓AOps_pu, on_some, extK_false, ↓then_normal, ↓FinR_ret, pval, rd_S, rd_C, put_S, putS_none, resV, resL, List.replicate_succ, List.replicate_zero, List.set_cons_zero, List.set_cons_succ, List.getElem?_cons_zero, List.getElem?_cons_succ, Option.getD_some, Nat.reduceSub, List.cons_append, List.nil_append]
    exact ⟨_, _, gc_all, _, rfl, hpA.trans (hp2.trans (hp4.trans p5)), hR⟩
  obtain ⟨t, H, h1, r, rfl, h2⟩ := key
  exact ⟨r, H, h1, h2⟩
end
end Go.Proofs.Ytkgfcdpckfhknaa

namespace Go.Proofs.Ytkgfcdpckfhknaa
open Go Go.Eng
section
variable {P : Nat} {rs : List Rd} {ks : List Int} {u v : AV} {A : AHeap}
/-- How many lists have a number. -/
def cnI (ls : List (List Int)) (i : Int) : Nat := (ls.filter (fun l => decide (i ∈ l))).length
theorem cnI_take {ls : List (List Int)} {t : Nat} {l : List Int} {i : Int} (h : ls[t]? = some l) : cnI (ls.take (t + 1)) i = cnI (ls.take t) i + if i ∈ l then 1 else 0 := by
  unfold cnI
  rw [List.take_add_one, h, List.filter_append, List.length_append]
  congr 1
  by_cases hi : i ∈ l
  · rw [if_pos hi]; simp [hi]
  · rw [if_neg hi]; simp [hi]
theorem cnI_le (ls : List (List Int)) (i : Int) : cnI ls i ≤ ls.length := List.length_filter_le _ _
theorem cnI_all {ls : List (List Int)} {i : Int} : cnI ls i = ls.length ↔ ∀ l ∈ ls, i ∈ l := by
  unfold cnI
  rw [List.length_filter_eq_length_iff]
  simp
theorem cnI_none {ls : List (List Int)} {i : Int} : cnI ls i = 0 ↔ ∀ l ∈ ls, i ∉ l := by
  unfold cnI
  rw [List.length_eq_zero_iff, List.filter_eq_nil_iff]
  simp
/-- In all, or in none. -/
def shB (b : Bool) (ls : List (List Int)) (i : Int) : Bool := if b = true then decide (cnI ls i = ls.length) else decide (cnI ls i = 0)
set_option maxRecDepth 20000 in
set_option maxHeartbeats 16000000 in
theorem s91 (hu : L3 A u rs) (hn : Net P rs) (b : Bool) : ∃ r H, ACalls Try.prog 91 [.agg [I P, u], B b] A r H ∧ A <+: H ∧ L1 H r ((nums rs).filter (shB b (chl P rs))) := by
  refine acallsR hmix Try.func91 (by kernel_rfl) t91 _ 2 rfl (by decide) ?_
  have hl14 := hn.l
  dsimp only [m91]
  simp (maxSteps := 4000000) -implicitDefEqProofs -dsimp (disch := omega) only [↓AW_ops, ↓AW_seq, ↓AOps_nil, ↓AOps_pu, ↓AOps_call, on_some, ↓then_normal, pval, rd_S, rd_C, put_S, chkd, bgot, cells_agg, partA, eq_self, List.replicate_succ, List.replicate_zero, List.set_cons_zero, List.set_cons_succ, List.getElem?_cons_zero, List.getElem?_cons_succ, List.drop_zero, List.take_succ_cons, List.take_nil, Option.getD_some, map_c, map_n, List.length_cons, List.length_nil, Nat.reduceAdd, Nat.reduceSub, Nat.reduceLeDiff, Nat.reduceEqDiff, Nat.zero_add, List.cons_append, List.nil_append, if_true, if_false]
  obtain ⟨r1, H1, c1, p1, ws, hll, hli, hwl⟩ := c_cheapest hu hn
  refine CallK.of c1 ?_
  have hlw : (chl P rs).length = ws.length := by rw [← hli]; simp
  have hu1 := hu.mono p1
  simp (maxSteps := 4000000) -implicitDefEqProofs -dsimp (disch := omega) only [↓AW_ops, ↓AW_seq, ↓AW_block, ↓AOps_nil, ↓AOps_pu, on_some, extK_false, ↓then_normal, pval, rd_S, rd_C, put_S, ↓AW_toLoop, List.replicate_succ, List.replicate_zero, List.set_cons_zero, List.set_cons_succ, List.getElem?_cons_zero, List.getElem?_cons_succ, Option.getD_some, Nat.reduceSub, List.cons_append, List.nil_append]
  refine LoopK.by 53 (fun x : Nat × AV × AHeap => x.1 ≤ rs.length ∧ AccL 1 e1 H1 x.2.2 x.2.1 ((plc x.1).filter (shB b (chl P rs)))) (fun x => [(1, B b), (2, .agg [I P, u]), (5, r1), (6, x.2.1), (7, I x.1)]) (fun x => x.2.2) (fun x => rs.length - x.1) (0, .nilS, H1) ⟨by simp only; omega, AccL.nil (List.prefix_refl _)⟩ rfl (by simp [Has, rd_s]) rfl ?_
  rintro ⟨j, y, H⟩ ⟨hj, hac⟩
  simp only at hj hac
  have huH := hu1.mono hac.1
  have hlH := hll.mono hac.1
  by_cases hlt : j < rs.length
  · have hlt' : (j : Int) < rs.length := by omega
    have hfl := filt_len (shB b (chl P rs)) j
    have hsu := filt_succ (shB b (chl P rs)) j
    simp (maxSteps := 4000000) -implicitDefEqProofs -dsimp (disch := omega) only [↓AW_skip, ↓AW_ops, ↓AW_seq, ↓AW_cond, ↓AW_block, ↓AOps_nil, ↓AOps_pu, on_some, condB_t, ↓then_normal, pval, rd_S, rd_C, put_S, ↓AW_toLoop, chkd, isAdr, bgot, cells_agg, partA, eq_self, mk, List.foldl_cons, List.foldl_nil, List.replicate_succ, List.replicate_zero, List.set_cons_zero, List.set_cons_succ, List.getElem?_cons_zero, List.getElem?_cons_succ, List.drop_zero, List.drop_succ_cons, List.take_succ_cons, List.take_nil, Option.getD_some, List.length_cons, List.length_nil, Nat.reduceAdd, Nat.reduceLeDiff, Nat.zero_add, bin_lss, if_true, if_false, Bool.false_eq_true, decide_true, hlt', huH.len]
    clear hlt'
    refine LoopK.by 53 (fun x : Nat × Nat => x.1 ≤ ws.length ∧ x.2 = cnI ((lists ws).take x.1) (j : Int)) (fun x => [(1, B b), (2, .agg [I P, u]), (5, r1), (6, y), (7, I j), (8, I x.2), (9, I x.1)]) (fun _ => H) (fun x => ws.length - x.1) (0, 0) ⟨by simp only; omega, by simp [cnI]⟩ rfl (by simp [Has, rd_s]) rfl ?_
    rintro ⟨t, c⟩ ⟨ht, hc⟩
    simp only at ht hc
    have hct : c ≤ t := by
      have := cnI_le ((lists ws).take t) (j : Int)
      rw [List.length_take] at this
      omega
    by_cases hlt2 : t < ws.length
    · obtain ⟨x, hz⟩ : ∃ x, ws[t]? = some x := ⟨_, List.getElem?_eq_getElem hlt2⟩
      have hlt2' : (t : Int) < (ws.length : Int) := by omega
      have hm := List.mem_of_getElem? hz
      have hxt : (lists ws)[t]? = some x.2 := by rw [List.getElem?_map, hz]; rfl
      have hxm : x.2 ∈ trees P rs := (mem_chl.1 (by rw [← hli]; exact mem_lists hm)).1
      have hx := hlH.inn x hm
      have hcn := cnI_take (i := (j : Int)) hxt
      simp (maxSteps := 4000000) -implicitDefEqProofs -dsimp (disch := omega) only [↓AW_skip, ↓AW_ops, ↓AW_seq, ↓AW_cond, ↓AW_block, ↓AOps_nil, ↓AOps_pu, ↓AOps_ld, ↓AOps_call, on_some, condB_t, ↓then_normal, pval, lval, rd_S, put_S, partA, eq_self, mk, List.foldl_cons, List.foldl_nil, List.replicate_succ, List.replicate_zero, List.set_cons_zero, List.set_cons_succ, List.getElem?_cons_zero, List.getElem?_cons_succ, List.drop_zero, List.take_succ_cons, List.take_nil, Option.getD_some, map_c, map_n, List.length_cons, List.length_nil, Nat.reduceLeDiff, Nat.zero_add, bin_lss, if_true, if_false, Bool.false_eq_true, decide_true, hlH.ls.len, hlt2', hlH.ls.idx hlt2, hlH.ls.ld0 hz 1 false (by decide), e0]
      refine CallK.of (s51 hx (tree_len hxm hn) (j : Int)) ?_
      by_cases hi : (j : Int) ∈ x.2
      · rw [if_pos hi] at hcn
        rw [decide_eq_true hi]
        simp (maxSteps := 4000000) -implicitDefEqProofs -dsimp (disch := omega) only [↓AW_ops, ↓AW_cond, ↓AOps_nil, ↓AOps_pu, on_some, extK_same, condB_t, ↓then_normal, ↓inBlock_normal, pval, rd_S, rd_C, put_S, eq_self, mk, List.foldl_cons, List.foldl_nil, List.replicate_succ, List.replicate_zero, List.set_cons_zero, List.set_cons_succ, List.getElem?_cons_zero, List.getElem?_cons_succ, Option.getD_some, List.length_cons, List.length_nil, Nat.reduceAdd, Nat.zero_add, bin_add, w64, true_and]
        exact ⟨(t + 1, c + 1), ⟨hlt2, by simp only; rw [hcn, hc]⟩, by simp [Has, rd_s], by simp only; omega⟩
      · rw [if_neg hi] at hcn
        rw [decide_eq_false hi]
        simp (maxSteps := 4000000) -implicitDefEqProofs -dsimp (disch := omega) only [↓AW_skip, ↓AW_ops, ↓AW_cond, ↓AOps_nil, ↓AOps_pu, on_some, extK_same, condB_f, ↓then_normal, ↓inBlock_normal, pval, rd_S, rd_C, put_S, eq_self, mk, List.foldl_cons, List.foldl_nil, List.replicate_succ, List.replicate_zero, List.set_cons_zero, List.set_cons_succ, List.getElem?_cons_zero, List.getElem?_cons_succ, Option.getD_some, List.length_cons, List.length_nil, Nat.reduceAdd, Nat.zero_add, bin_add, w64, true_and]
        exact ⟨(t + 1, c), ⟨hlt2, by simp only; rw [hcn, hc]; rfl⟩, by simp [Has, rd_s], by simp only; omega⟩
    · have hlt2' : ¬ ((t : Int) < (ws.length : Int)) := by omega
      rw [List.take_of_length_le (by simp; omega), hli] at hc
      have hyes : shB b (chl P rs) (j : Int) = true → ∃ n H2, appA 1 (H ++ [.cells true [I j]]) y (.sl 1 H.length 0 1 true) = some (n, H2) ∧ AccL 1 e1 H1 H2 n ((plc (j + 1)).filter (shB b (chl P rs))) := fun h => by
        rw [if_pos h] at hsu
        obtain ⟨v', H2, happ, hacc⟩ := hac.push e1_len (j : Int) (by simp only [lim]; omega)
        exact ⟨v', H2, happ, by rw [hsu]; exact hacc⟩
      have hno : shB b (chl P rs) (j : Int) = false → AccL 1 e1 H1 H y ((plc (j + 1)).filter (shB b (chl P rs))) := fun h => by
        rw [if_neg (by rw [h]; simp), List.append_nil] at hsu
        rw [hsu]
        exact hac
      cases b with
      | true =>
        by_cases he : (c : Int) = (ws.length : Int)
        · obtain ⟨v', H2, happ, hacc⟩ := hyes (by unfold shB; rw [if_pos rfl, decide_eq_true_eq, ← hc, hlw]; omega)
          simp (maxSteps := 4000000) -implicitDefEqProofs -dsimp (disch := omega) only [↓AW_ops, ↓AW_seq, ↓AW_cond, ↓AW_exit, ↓AW_ret, ↓AOps_nil, ↓AOps_pu, ↓AOps_ha, ↓AOps_guard, on_some, extK_false, extK_app, guardB_tt, guardB_tf, guardB_undef, skipS_some, condB_t, condB_f, ↓then_normal, ↓then_exit, ↓inBlock_normal, ↓inBlock_exit, ↓FinR_ret, pval, hval_blds, hval_app, rd_S, rd_C, put_S, resV, resL, cells_int, splice, fillA, repl, eq_self, mk, List.foldl_cons, List.foldl_nil, List.replicate_succ, List.replicate_zero, List.set_cons_zero, List.set_cons_succ, List.getElem?_cons_zero, List.getElem?_cons_succ, List.drop_succ_cons, List.drop_nil, List.take_zero, Option.getD_some, map_c, map_n, List.length_cons, List.length_nil, Nat.reduceAdd, Nat.reduceLeDiff, Nat.reduceEqDiff, Nat.zero_add, List.nil_append, List.append_nil, bin_add, bin_eql, bin_lss, w64, if_true, if_false, decide_true, decide_false, true_and, and_true, reduceCtorEq, hlH.ls.len, hlt2', he, happ, List.replicate_zero, repl]
          exact ⟨(j + 1, v', H2), ⟨hlt, hacc⟩, by simp [Has, rd_s], rfl, by simp only; omega⟩
        · have hac2 := hno (by unfold shB; rw [if_pos rfl, decide_eq_false_iff_not, ← hc, hlw]; omega)
          simp (maxSteps := 4000000) -implicitDefEqProofs -dsimp (disch := omega) only [↓AW_skip, ↓AW_ops, ↓AW_seq, ↓AW_cond, ↓AW_exit, ↓AW_ret, ↓AOps_nil, ↓AOps_pu, ↓AOps_guard, on_some, guardB_tt, guardB_ft, guardB_ff, skipS_some, condB_f, ↓then_normal, ↓then_exit, ↓inBlock_normal, ↓inBlock_exit, ↓FinR_ret, pval, rd_S, rd_C, put_S, resV, resL, eq_self, mk, List.foldl_cons, List.foldl_nil, List.replicate_succ, List.replicate_zero, List.set_cons_zero, List.set_cons_succ, List.getElem?_cons_zero, List.getElem?_cons_succ, Option.getD_some, List.length_cons, List.length_nil, Nat.reduceAdd, Nat.reduceEqDiff, Nat.zero_add, bin_add, bin_eql, bin_lss, w64, if_true, if_false, Bool.false_eq_true, Bool.not_true, decide_false, true_and, reduceCtorEq, hlH.ls.len, hlt2', he]
          exact ⟨(j + 1, y, H), ⟨hlt, hac2⟩, by simp [Has, rd_s], rfl, by simp only; omega⟩
      | false =>
        by_cases he : c = 0
        · obtain ⟨v', H2, happ, hacc⟩ := hyes (by unfold shB; rw [if_neg (by decide), decide_eq_true_eq, ← hc]; exact he)
          have he0 : (c : Int) = 0 := by omega
          simp (maxSteps := 4000000) -implicitDefEqProofs -dsimp (disch := omega) only [↓AW_ops, ↓AW_seq, ↓AW_cond, ↓AW_exit, ↓AW_ret, ↓AOps_nil, ↓AOps_pu, ↓AOps_ha, ↓AOps_guard, on_some, extK_false, extK_app, guardB_tt, guardB_ft, guardB_ff, skipS_some, condB_t, condB_f, ↓then_normal, ↓then_exit, ↓inBlock_normal, ↓inBlock_exit, ↓FinR_ret, pval, hval_blds, hval_app, rd_S, rd_C, put_S, resV, resL, cells_int, splice, fillA, repl, eq_self, mk, List.foldl_cons, List.foldl_nil, List.replicate_succ, List.replicate_zero, List.set_cons_zero, List.set_cons_succ, List.getElem?_cons_zero, List.getElem?_cons_succ, List.drop_succ_cons, List.drop_nil, List.take_zero, Option.getD_some, map_c, map_n, List.length_cons, List.length_nil, Nat.reduceAdd, Nat.reduceLeDiff, Nat.reduceEqDiff, Nat.zero_add, List.nil_append, List.append_nil, bin_add, bin_eql, bin_lss, w64, if_true, if_false, Bool.false_eq_true, Bool.not_false, decide_true, decide_false, true_and, and_true, reduceCtorEq, hlH.ls.len, hlt2', he0, happ, List.replicate_zero, repl]
          exact ⟨(j + 1, v', H2), ⟨hlt, hacc⟩, by simp [Has, rd_s], rfl, by simp only; omega⟩
        · have hac2 := hno (by unfold shB; rw [if_neg (by decide), decide_eq_false_iff_not, ← hc]; exact he)
          have he0 : ¬ (c : Int) = 0 := by omega
          simp (maxSteps := 4000000) -implicitDefEqProofs -dsimp (disch := omega) only [↓AW_skip, ↓AW_ops, ↓AW_seq, ↓AW_cond, ↓AW_exit, ↓AW_ret, ↓AOps_nil, ↓AOps_pu, ↓AOps_guard, on_some, guardB_tt, guardB_ft, guardB_ff, skipS_some, condB_f, ↓then_normal, ↓then_exit, ↓inBlock_normal, ↓inBlock_exit, ↓FinR_ret, pval, rd_S, rd_C, put_S, resV, resL, eq_self, mk, List.foldl_cons, List.foldl_nil, List.replicate_succ, List.replicate_zero, List.set_cons_zero, List.set_cons_succ, List.getElem?_cons_zero, List.getElem?_cons_succ, Option.getD_some, List.length_cons, List.length_nil, Nat.reduceAdd, Nat.reduceEqDiff, Nat.zero_add, bin_add, bin_eql, bin_lss, w64, if_true, if_false, Bool.false_eq_true, Bool.not_false, decide_false, true_and, reduceCtorEq, hlH.ls.len, hlt2', he0]
          exact ⟨(j + 1, y, H), ⟨hlt, hac2⟩, by simp [Has, rd_s], rfl, by simp only; omega⟩
  · have hlt' : ¬ ((j : Int) < rs.length) := by omega
    have hje : j = rs.length := by omega
    subst hje
    simp (maxSteps := 4000000) -implicitDefEqProofs -dsimp (disch := omega) only [↓AW_ops, ↓AW_seq, ↓AW_cond, ↓AW_exit, ↓AW_ret, ↓AOps_nil, ↓AOps_pu, on_some, condB_f, ↓then_normal, ↓then_exit, ↓inBlock_exit, ↓FinR_ret, pval, rd_S, put_S, resV, resL, chkd, isAdr, bgot, cells_agg, partA, eq_self, mk, List.foldl_cons, List.foldl_nil, List.replicate_succ, List.replicate_zero, List.set_cons_zero, List.set_cons_succ, List.getElem?_cons_zero, List.getElem?_cons_succ, List.drop_zero, List.drop_succ_cons, List.take_succ_cons, List.take_nil, Option.getD_some, List.length_cons, List.length_nil, Nat.reduceAdd, Nat.reduceLeDiff, Nat.zero_add, bin_lss, if_true, if_false, Bool.false_eq_true, decide_false, hlt', huH.len]
    exact ⟨_, _, gc_all, p1.trans hac.1, AccL_ls hac e1_len⟩
theorem sh_alw : (nums rs).filter (shB true (chl P rs)) = (nums rs).filter (fun i => decide (alw P rs i)) := by
  refine List.filter_congr (fun i _ => ?_)
  unfold shB
  rw [if_pos rfl]
  exact decide_eq_decide.2 cnI_all
theorem sh_nev : (nums rs).filter (shB false (chl P rs)) = (nums rs).filter (fun i => decide (nev P rs i)) := by
  refine List.filter_congr (fun i _ => ?_)
  unfold shB
  rw [if_neg (by decide)]
  exact decide_eq_decide.2 cnI_none
end
section
variable {Q : Int} {rs : List Rd} {ks : List Int} {u v : AV} {A : AHeap}
theorem s46 (hu : L3 A u rs) (hW : W Q) : ∃ r H, ACalls Try.prog 46 [.agg [I Q, u]] A (.tuple [r, I (vE Q rs)]) H ∧ A <+: H ∧ L1 H r (alL Q rs) := by
  have key : ∃ t H, ACalls Try.prog 46 [.agg [I Q, u]] A t H ∧ ∃ r, t = .tuple [r, I (vE Q rs)] ∧ A <+: H ∧ L1 H r (alL Q rs) := by
    refine acallsR hmix Try.func46 (by kernel_rfl) t46 _ 1 rfl (by decide) ?_
    dsimp only [m46]
    simp (maxSteps := 4000000) -implicitDefEqProofs -dsimp (disch := omega) only [↓AW_ops, ↓AW_seq, ↓AOps_nil, ↓AOps_pu, ↓AOps_call, on_some, ↓then_normal, pval, rd_S, rd_C, put_S, chkd, bgot, cells_agg, partA, eq_self, List.replicate_succ, List.replicate_zero, List.set_cons_zero, List.set_cons_succ, List.getElem?_cons_zero, List.getElem?_cons_succ, List.drop_zero, List.take_succ_cons, List.take_nil, Option.getD_some, map_c, map_n, List.length_cons, List.length_nil, Nat.reduceAdd, Nat.reduceSub, Nat.reduceLeDiff, Nat.reduceEqDiff, Nat.zero_add, List.cons_append, List.nil_append, if_true, if_false]
    refine CallK.of (s22 hu hW) ?_
    by_cases h0 : vE Q rs = 0
    case neg =>
      have hA0 : alL Q rs = [] := if_neg h0
      rw [hA0]
      simp (maxSteps := 4000000) -implicitDefEqProofs -dsimp (disch := omega) only [↓AW_ops, ↓AW_seq, ↓AW_cond, ↓AW_ret, ↓AOps_nil, ↓AOps_pu, on_some, extK_same, condB_t, ↓then_normal, ↓then_ret, ↓FinR_ret, pval, rd_S, rd_C, put_S, resV, resL, List.replicate_succ, List.replicate_zero, List.set_cons_zero, List.set_cons_succ, List.getElem?_cons_zero, List.getElem?_cons_succ, Option.getD_some, Nat.reduceSub, List.cons_append, List.nil_append, bin_neq, decide_true, not_false_eq_true, h0]
      exact ⟨_, _, gc_same rfl, _, rfl, List.prefix_refl _, L1_nil _⟩
    have hn := vE_0.1 h0
    obtain ⟨P, rfl⟩ := hn.nat
    have hA1 : alL P rs = (nums rs).filter (fun i => decide (alw P rs i)) := if_pos h0
    rw [h0, hA1]
    simp (maxSteps := 4000000) -implicitDefEqProofs -dsimp (disch := omega) only [↓AW_skip, ↓AW_ops, ↓AW_seq, ↓AW_cond, ↓AOps_nil, ↓AOps_pu, ↓AOps_call, on_some, extK_same, condB_f, ↓then_normal, pval, rd_S, rd_C, put_S, chkd, bgot, partA, eq_self, List.replicate_succ, List.replicate_zero, List.set_cons_zero, List.set_cons_succ, List.getElem?_cons_zero, List.getElem?_cons_succ, List.drop_zero, List.take_succ_cons, List.take_nil, Option.getD_some, map_c, map_n, List.length_cons, List.length_nil, Nat.reduceAdd, Nat.reduceSub, Nat.reduceLeDiff, Nat.reduceEqDiff, Nat.zero_add, List.cons_append, List.nil_append, bin_neq, if_true, if_false, decide_false, not_true_eq_false]
    obtain ⟨r, H, c1, p1, hR⟩ := s91 hu hn true
    rw [sh_alw] at hR
    refine CallK.of c1 ?_
    simp (maxSteps := 4000000) -implicitDefEqProofs -dsimp (disch := omega) only [↓AW_ret, ↓AOps_nil, ↓AOps_pu, on_some, extK_false, ↓then_normal, ↓FinR_ret, pval, rd_S, rd_C, put_S, resV, resL, List.replicate_succ, List.replicate_zero, List.set_cons_zero, List.set_cons_succ, List.getElem?_cons_zero, List.getElem?_cons_succ, Option.getD_some, Nat.reduceSub, List.cons_append, List.nil_append]
    exact ⟨_, _, gc_all, _, rfl, p1, hR⟩
  obtain ⟨t, H, h1, r, rfl, h2⟩ := key
  exact ⟨r, H, h1, h2⟩
theorem s48 (hu : L3 A u rs) (hW : W Q) : ∃ r H, ACalls Try.prog 48 [.agg [I Q, u]] A (.tuple [r, I (vE Q rs)]) H ∧ A <+: H ∧ L1 H r (neL Q rs) := by
  have key : ∃ t H, ACalls Try.prog 48 [.agg [I Q, u]] A t H ∧ ∃ r, t = .tuple [r, I (vE Q rs)] ∧ A <+: H ∧ L1 H r (neL Q rs) := by
    refine acallsR hmix Try.func48 (by kernel_rfl) t48 _ 1 rfl (by decide) ?_
    dsimp only [m48]
    simp (maxSteps := 4000000) -implicitDefEqProofs -dsimp (disch := omega) only [↓AW_ops, ↓AW_seq, ↓AOps_nil, ↓AOps_pu, ↓AOps_call, on_some, ↓then_normal, pval, rd_S, rd_C, put_S, chkd, bgot, cells_agg, partA, eq_self, List.replicate_succ, List.replicate_zero, List.set_cons_zero, List.set_cons_succ, List.getElem?_cons_zero, List.getElem?_cons_succ, List.drop_zero, List.take_succ_cons, List.take_nil, Option.getD_some, map_c, map_n, List.length_cons, List.length_nil, Nat.reduceAdd, Nat.reduceSub, Nat.reduceLeDiff, Nat.reduceEqDiff, Nat.zero_add, List.cons_append, List.nil_append, if_true, if_false]
    refine CallK.of (s22 hu hW) ?_
    by_cases h0 : vE Q rs = 0
    case neg =>
      have hA0 : neL Q rs = [] := if_neg h0
      rw [hA0]
      simp (maxSteps := 4000000) -implicitDefEqProofs -dsimp (disch := omega) only [↓AW_ops, ↓AW_seq, ↓AW_cond, ↓AW_ret, ↓AOps_nil, ↓AOps_pu, on_some, extK_same, condB_t, ↓then_normal, ↓then_ret, ↓FinR_ret, pval, rd_S, rd_C, put_S, resV, resL, List.replicate_succ, List.replicate_zero, List.set_cons_zero, List.set_cons_succ, List.getElem?_cons_zero, List.getElem?_cons_succ, Option.getD_some, Nat.reduceSub, List.cons_append, List.nil_append, bin_neq, decide_true, not_false_eq_true, h0]
      exact ⟨_, _, gc_same rfl, _, rfl, List.prefix_refl _, L1_nil _⟩
    have hn := vE_0.1 h0
    obtain ⟨P, rfl⟩ := hn.nat
    have hA1 : neL P rs = (nums rs).filter (fun i => decide (nev P rs i)) := if_pos h0
    rw [h0, hA1]
    simp (maxSteps := 4000000) -implicitDefEqProofs -dsimp (disch := omega) only [↓AW_skip, ↓AW_ops, ↓AW_seq, ↓AW_cond, ↓AOps_nil, ↓AOps_pu, ↓AOps_call, on_some, extK_same, condB_f, ↓then_normal, pval, rd_S, rd_C, put_S, chkd, bgot, partA, eq_self, List.replicate_succ, List.replicate_zero, List.set_cons_zero, List.set_cons_succ, List.getElem?_cons_zero, List.getElem?_cons_succ, List.drop_zero, List.take_succ_cons, List.take_nil, Option.getD_some, map_c, map_n, List.length_cons, List.length_nil, Nat.reduceAdd, Nat.reduceSub, Nat.reduceLeDiff, Nat.reduceEqDiff, Nat.zero_add, List.cons_append, List.nil_append, bin_neq, if_true, if_false, decide_false, not_true_eq_false]
    obtain ⟨r, H, c1, p1, hR⟩ := s91 hu hn false
    rw [sh_nev] at hR
    refine CallK.of c1 ?_
    simp (maxSteps := 4000000) -implicitDefEqProofs -dsimp (disch := omega) only [↓AW_ret, ↓AOps_nil, ↓AOps_pu, on_some, extK_false, ↓then_normal, ↓FinR_ret, pval, rd_S, rd_C, put_S, resV, resL, List.replicate_succ, List.replicate_zero, List.set_cons_zero, List.set_cons_succ, List.getElem?_cons_zero, List.getElem?_cons_succ, Option.getD_some, Nat.reduceSub, List.cons_append, List.nil_append]
    exact ⟨_, _, gc_all, _, rfl, p1, hR⟩
  obtain ⟨t, H, h1, r, rfl, h2⟩ := key
  exact ⟨r, H, h1, h2⟩
theorem fl_len (hl : ¬ ((100 : Int) < rs.length)) (Q : Int) : (alL Q rs).length ≤ 1000000 ∧ (neL Q rs).length ≤ 1000000 := by
  have h1 : ((nums rs).filter (fun i => decide (alw Q.toNat rs i))).length ≤ rs.length := filt_len _ _
  have h2 : ((nums rs).filter (fun i => decide (nev Q.toNat rs i))).length ≤ rs.length := filt_len _ _
  unfold alL neL
  split
  · omega
  · simp
set_option maxRecDepth 20000 in
set_option maxHeartbeats 16000000 in
theorem s13 (hu : L3 A u rs) (hP : W Q) : ACalls Try.prog 13 [.agg [I Q, u]] A (B true) A := by
  refine acalls hmix Try.func13 (by kernel_rfl) t13 1 rfl (by decide) ?_
  dsimp only [m13]
  simp (maxSteps := 4000000) -implicitDefEqProofs -dsimp (disch := omega) only [↓AW_ops, ↓AW_seq, ↓AOps_nil, ↓AOps_pu, ↓AOps_call, on_some, ↓then_normal, pval, rd_S, rd_C, put_S, chkd, bgot, AV.cells?, partA, eq_self, List.replicate_succ, List.replicate_zero, List.set_cons_zero, List.set_cons_succ, List.getElem?_cons_zero, List.getElem?_cons_succ, List.drop_zero, List.take_succ_cons, List.take_nil, Option.getD_some, map_c, map_n, List.length_cons, List.length_nil, Nat.reduceAdd, Nat.reduceSub, Nat.reduceLeDiff, Nat.reduceEqDiff, Nat.zero_add, List.cons_append, List.nil_append, if_true, if_false]
  refine CallK.of (s17 hu Q) ?_
  by_cases h1 : (100 : Int) < rs.length
  · simp (maxSteps := 4000000) -implicitDefEqProofs -dsimp (disch := omega) only [↓AW_ops, ↓AW_seq, ↓AW_cond, ↓AOps_nil, ↓AOps_call, extK_same, condB_t, ↓then_normal, rd_S, put_S, List.replicate_succ, List.replicate_zero, List.set_cons_zero, List.set_cons_succ, List.getElem?_cons_zero, List.getElem?_cons_succ, Option.getD_some, map_n, Nat.reduceSub, List.cons_append, List.nil_append, decide_true, h1]
    refine CallK.of (known A) ?_
    simp (maxSteps := 4000000) -implicitDefEqProofs -dsimp (disch := omega) only [↓AW_ret, ↓AOps_nil, ↓AOps_pu, on_some, extK_same, ↓then_normal, ↓then_ret, ↓Fin_ret, pval, rd_S, put_S, resV, resL, List.replicate_succ, List.replicate_zero, List.set_cons_zero, List.set_cons_succ, List.getElem?_cons_zero, List.getElem?_cons_succ, Option.getD_some, Nat.reduceSub, List.cons_append, List.nil_append]
    exact gc_same rfl
  have hfl := fl_len h1 Q
  simp (maxSteps := 4000000) -implicitDefEqProofs -dsimp (disch := omega) only [↓AW_skip, ↓AW_ops, ↓AW_seq, ↓AW_cond, ↓AOps_nil, ↓AOps_pu, ↓AOps_call, on_some, extK_same, condB_f, ↓then_normal, pval, rd_S, put_S, chkd, bgot, partA, eq_self, List.replicate_succ, List.replicate_zero, List.set_cons_zero, List.set_cons_succ, List.getElem?_cons_zero, List.getElem?_cons_succ, List.drop_zero, List.take_succ_cons, List.take_nil, Option.getD_some, map_c, map_n, List.length_cons, List.length_nil, Nat.reduceAdd, Nat.reduceSub, Nat.reduceLeDiff, Nat.reduceEqDiff, Nat.zero_add, List.cons_append, List.nil_append, if_true, if_false, decide_false, h1]
  refine CallK.of (s43 hu hP) ?_
  simp (maxSteps := 4000000) -implicitDefEqProofs -dsimp (disch := omega) only [↓AW_ops, ↓AW_seq, ↓AOps_nil, ↓AOps_pu, ↓AOps_call, on_some, extK_same, ↓then_normal, pval, rd_S, put_S, chkd, bgot, partA, eq_self, List.replicate_succ, List.replicate_zero, List.set_cons_zero, List.set_cons_succ, List.getElem?_cons_zero, List.getElem?_cons_succ, List.drop_zero, List.take_succ_cons, List.take_nil, Option.getD_some, map_c, map_n, List.length_cons, List.length_nil, Nat.reduceAdd, Nat.reduceSub, Nat.reduceLeDiff, Nat.reduceEqDiff, Nat.zero_add, List.cons_append, List.nil_append, if_true, if_false]
  refine CallK.of (s44 hu hP) ?_
  simp (maxSteps := 4000000) -implicitDefEqProofs -dsimp (disch := omega) only [↓AW_ops, ↓AW_seq, ↓AOps_nil, ↓AOps_pu, ↓AOps_call, on_some, extK_same, ↓then_normal, pval, rd_S, put_S, chkd, bgot, partA, eq_self, List.replicate_succ, List.replicate_zero, List.set_cons_zero, List.set_cons_succ, List.getElem?_cons_zero, List.getElem?_cons_succ, List.drop_zero, List.take_succ_cons, List.take_nil, Option.getD_some, map_c, map_n, List.length_cons, List.length_nil, Nat.reduceAdd, Nat.reduceSub, Nat.reduceLeDiff, Nat.reduceEqDiff, Nat.zero_add, List.cons_append, List.nil_append, if_true, if_false]
  obtain ⟨r1, H1, c1, p1, g1⟩ := s45 hu hP
  refine CallK.of c1 ?_
  simp (maxSteps := 4000000) -implicitDefEqProofs -dsimp (disch := omega) only [↓AW_ops, ↓AW_seq, ↓AOps_nil, ↓AOps_pu, ↓AOps_call, on_some, extK_false, ↓then_normal, pval, rd_S, put_S, chkd, bgot, partA, eq_self, List.replicate_succ, List.replicate_zero, List.set_cons_zero, List.set_cons_succ, List.getElem?_cons_zero, List.getElem?_cons_succ, List.drop_zero, List.take_succ_cons, List.take_nil, Option.getD_some, map_c, map_n, List.length_cons, List.length_nil, Nat.reduceAdd, Nat.reduceSub, Nat.reduceLeDiff, Nat.reduceEqDiff, Nat.zero_add, List.cons_append, List.nil_append, if_true, if_false]
  obtain ⟨r2, H2, c2, p2, g2⟩ := s46 (hu.mono p1) hP
  refine CallK.of c2 ?_
  simp (maxSteps := 4000000) -implicitDefEqProofs -dsimp (disch := omega) only [↓AW_ops, ↓AW_seq, ↓AOps_nil, ↓AOps_pu, ↓AOps_call, on_some, extK_false, ↓then_normal, pval, rd_S, put_S, chkd, bgot, partA, eq_self, List.replicate_succ, List.replicate_zero, List.set_cons_zero, List.set_cons_succ, List.getElem?_cons_zero, List.getElem?_cons_succ, List.drop_zero, List.take_succ_cons, List.take_nil, Option.getD_some, map_c, map_n, List.length_cons, List.length_nil, Nat.reduceAdd, Nat.reduceSub, Nat.reduceLeDiff, Nat.reduceEqDiff, Nat.zero_add, List.cons_append, List.nil_append, if_true, if_false]
  have p12 := p1.trans p2
  obtain ⟨r3, H3, c3, p3, g3⟩ := s47 (hu.mono p12) hP
  refine CallK.of c3 ?_
  simp (maxSteps := 4000000) -implicitDefEqProofs -dsimp (disch := omega) only [↓AW_ops, ↓AW_seq, ↓AOps_nil, ↓AOps_pu, ↓AOps_call, on_some, extK_false, ↓then_normal, pval, rd_S, put_S, chkd, bgot, partA, eq_self, List.replicate_succ, List.replicate_zero, List.set_cons_zero, List.set_cons_succ, List.getElem?_cons_zero, List.getElem?_cons_succ, List.drop_zero, List.take_succ_cons, List.take_nil, Option.getD_some, map_c, map_n, List.length_cons, List.length_nil, Nat.reduceAdd, Nat.reduceSub, Nat.reduceLeDiff, Nat.reduceEqDiff, Nat.zero_add, List.cons_append, List.nil_append, if_true, if_false]
  have p13 := p12.trans p3
  obtain ⟨r4, H4, c4, p4, g4⟩ := s48 (hu.mono p13) hP
  refine CallK.of c4 ?_
  simp (maxSteps := 4000000) -implicitDefEqProofs -dsimp (disch := omega) only [↓AW_ops, ↓AW_seq, ↓AOps_nil, ↓AOps_pu, ↓AOps_call, ↓AOps_guard, on_some, extK_false, guardB_tt, ↓then_normal, pval, rd_S, rd_C, put_S, eq_self, List.replicate_succ, List.replicate_zero, List.set_cons_zero, List.set_cons_succ, List.getElem?_cons_zero, List.getElem?_cons_succ, Option.getD_some, map_c, map_n, Nat.reduceSub, List.cons_append, List.nil_append, bin_eql, if_true, decide_true]
  have p14 := p13.trans p4
  refine CallK.of (s49 (g1.mono (p2.trans (p3.trans p4))) (g2.mono (p3.trans p4)) hfl.1) ?_
  simp (maxSteps := 4000000) -implicitDefEqProofs -dsimp (disch := omega) only [↓AOps_pu, ↓AOps_call, ↓AOps_guard, on_some, extK_same, guardB_tt, pval, rd_S, rd_C, put_S, eq_self, List.replicate_succ, List.replicate_zero, List.set_cons_zero, List.set_cons_succ, List.getElem?_cons_zero, List.getElem?_cons_succ, Option.getD_some, map_c, map_n, Nat.reduceSub, List.cons_append, List.nil_append, bin_eql, if_true, decide_true]
  refine CallK.of (s49 (g3.mono p4) g4 hfl.2) ?_
  simp (maxSteps := 4000000) -implicitDefEqProofs -dsimp (disch := omega) only [↓AOps_pu, ↓AOps_call, ↓AOps_guard, on_some, extK_same, guardB_tt, pval, rd_S, rd_C, put_S, eq_self, List.replicate_succ, List.replicate_zero, List.set_cons_zero, List.set_cons_succ, List.getElem?_cons_zero, List.getElem?_cons_succ, Option.getD_some, map_n, Nat.reduceSub, List.cons_append, List.nil_append, if_true, decide_true]
  refine CallK.of (known H4) ?_
  simp (maxSteps := 4000000) -implicitDefEqProofs -dsimp (disch := omega) only [↓AW_ret, ↓AOps_nil, ↓AOps_pu, on_some, extK_same, ↓then_normal, ↓Fin_ret, pval, rd_S, rd_C, put_S, resV, resL, eq_self, List.replicate_succ, List.replicate_zero, List.set_cons_zero, List.set_cons_succ, List.getElem?_cons_zero, List.getElem?_cons_succ, Option.getD_some, Nat.reduceSub, List.cons_append, List.nil_append, if_true, decide_true]
  exact gc_val p14 rfl
end
end Go.Proofs.Ytkgfcdpckfhknaa

