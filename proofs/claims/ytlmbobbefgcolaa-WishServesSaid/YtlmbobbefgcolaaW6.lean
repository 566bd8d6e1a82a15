/- Wishes: how many have the first place of their list, and so on. No conditions. -/
import Derived.Test.YtlmbobbefgcolaaW5
namespace Go.Proofs.Ytlmbobbefgcolaa
open Go Go.Eng

theorem lsE_all {P : Int} : ∀ {ls : List (List Int)}, lsE P ls = 0 → ∀ l ∈ ls, lE P l = 0
  | [], _, _, h => by simp at h
  | a :: ls, h, l, hl => by
    rw [lsE] at h
    split at h
    · rename_i h1
      rcases List.mem_cons.1 hl with rfl | hl
      · exact h1
      · exact lsE_all h l hl
    · rename_i h1; exact absurd h h1

theorem lE_0 {P : Int} {l : List Int} (h : lE P l = 0) : (∀ p ∈ l, inP P p) ∧ l.Nodup := by
  unfold lE at h
  split at h
  · rename_i h1
    split at h
    · rename_i h2; exact ⟨h1, h2⟩
    · cases h
  · cases h

/-- What valid wishes are. -/
structure Val (P : Int) (ls : List (List Int)) : Prop where
  hP : 1 ≤ P ∧ P ≤ 7
  n : ls.length ≤ 7
  l : ∀ l ∈ ls, (∀ p ∈ l, inP P p) ∧ l.Nodup

theorem val_of {P : Int} {ls : List (List Int)} (h : vW P ls = 0) : Val P ls := by
  have hP := vW_P7 h
  have hn : ¬ 7 < ls.length := fun h1 => by rw [vW_n hP h1] at h; cases h
  rw [vW_l hP hn] at h
  exact ⟨hP, by omega, fun l hl => lE_0 (lsE_all h l hl)⟩

theorem len_le {P : Int} {l : List Int} (hP : 0 ≤ P) (h : (∀ p ∈ l, inP P p) ∧ l.Nodup) : (l.length : Int) ≤ P := by
  have := nodup_len h.2 (m := nums P.toNat) (fun p hp => mem_nums.2 ⟨(h.1 p hp).1, by have := (h.1 p hp).2; omega⟩)
  simp only [nums, List.length_map, List.length_range] at this
  omega

theorem Val.len {P : Int} {ls : List (List Int)} (h : Val P ls) {l : List Int} (hl : l ∈ ls) : (l.length : Int) ≤ P := len_le (by have := h.hP; omega) (h.l l hl)

theorem fpos_in {p : Int} {l : List Int} (h : p ∈ l) : ∃ k : Nat, k < l.length ∧ fpos (fun y => decide (p = y)) l = k ∧ l[k]? = some p := by
  obtain ⟨k, hk⟩ : ∃ k, l.findIdx? (fun y => decide (p = y)) = some k := by
    cases hf : l.findIdx? (fun y => decide (p = y)) with
    | some k => exact ⟨k, rfl⟩
    | none =>
      rw [List.findIdx?_eq_none_iff] at hf
      have := hf p h
      simp at this
  have hk2 := hk
  rw [List.findIdx?_eq_some_iff_getElem] at hk2
  obtain ⟨h1, h2, _⟩ := hk2
  refine ⟨k, h1, by unfold fpos; rw [hk], ?_⟩
  rw [List.getElem?_eq_getElem h1]
  have : p = l[k] := by simpa using h2
  rw [← this]

theorem fpos_at {p : Int} {l : List Int} {k : Nat} (hn : l.Nodup) (h : l[k]? = some p) : fpos (fun y => decide (p = y)) l = k := by
  obtain ⟨j, hj, e, hj2⟩ := fpos_in (List.mem_of_getElem? h)
  have : j = k := (List.getElem?_inj hj hn).1 (hj2.trans h.symm)
  rw [e, this]

def cstep (c : List Int) (x : Int × List Int) : List Int := if 0 ≤ x.1 then c.set (fpos (fun y => decide (x.1 = y)) x.2).toNat ((c[(fpos (fun y => decide (x.1 = y)) x.2).toNat]?).getD 0 + 1) else c
def cnt (P : Int) (zs : List (Int × List Int)) : List Int := zs.foldl cstep (List.replicate P.toNat 0)

theorem cnt_take {P : Int} {zs : List (Int × List Int)} {i : Nat} {x : Int × List Int} (h : zs[i]? = some x) : cnt P (zs.take (i + 1)) = cstep (cnt P (zs.take i)) x := by
  unfold cnt
  rw [List.take_add_one, h, Option.toList_some, List.foldl_append]
  rfl

theorem cstep_len (c : List Int) (x : Int × List Int) : (cstep c x).length = c.length := by unfold cstep; split <;> simp
theorem cnt_len (P : Int) (zs : List (Int × List Int)) : (cnt P zs).length = P.toNat := by
  unfold cnt
  have : ∀ (zs : List (Int × List Int)) (c : List Int), (zs.foldl cstep c).length = c.length := by
    intro zs
    induction zs with
    | nil => intro c; rfl
    | cons x zs ih => intro c; rw [List.foldl_cons, ih, cstep_len]
  rw [this]; simp

theorem cstep_b {c : List Int} {x : Int × List Int} {m : Int} (h : ∀ y ∈ c, 0 ≤ y ∧ y ≤ m) (hm : 0 ≤ m) : ∀ y ∈ cstep c x, 0 ≤ y ∧ y ≤ m + 1 := by
  intro y hy
  unfold cstep at hy
  split at hy
  · rcases List.mem_or_eq_of_mem_set hy with hy | rfl
    · have := h y hy; omega
    · cases hk : c[(fpos (fun y => decide (x.1 = y)) x.2).toNat]? with
      | none => simp; omega
      | some z => have := h z (List.mem_of_getElem? hk); simp; omega
  · have := h y hy; omega

theorem cnt_b (P : Int) (zs : List (Int × List Int)) : ∀ y ∈ cnt P zs, 0 ≤ y ∧ y ≤ zs.length := by
  have : ∀ (zs : List (Int × List Int)) (c : List Int) (m : Int), 0 ≤ m → (∀ y ∈ c, 0 ≤ y ∧ y ≤ m) → ∀ y ∈ zs.foldl cstep c, 0 ≤ y ∧ y ≤ m + zs.length := by
    intro zs
    induction zs with
    | nil => intro c m _ h; simpa using h
    | cons x zs ih =>
      intro c m hm h y hy
      have := ih (cstep c x) (m + 1) (by omega) (cstep_b h hm) y (by simpa using hy)
      simp only [List.length_cons]
      omega
  intro y hy
  have := this zs (List.replicate P.toNat 0) 0 (by omega) (fun y hy => by have := (List.mem_replicate.1 hy).2; omega) y hy
  omega

theorem repl_zero (n : Nat) : repl [AV.int .i64 0] n = (List.replicate n (0 : Int)).flatMap Go.Eng.e1 := by
  induction n with
  | zero => rfl
  | succ n ih => rw [repl, ih, List.replicate_succ, List.flatMap_cons]; rfl

theorem gE_facts {P : Int} {ls : List (List Int)} {g : List Int} (h : gE P ls g = 0) : Val P ls ∧ g.length = ls.length ∧ (∀ x ∈ g.zip ls, okP x) := by
  have h1 := good_iff.1 h
  refine ⟨val_of h1.1, h1.2.len, fun x hx => ?_⟩
  obtain ⟨k, hk⟩ := List.mem_iff_getElem?.1 hx
  rw [List.getElem?_zip_eq_some] at hk
  have hlt : k < ls.length := (List.getElem?_eq_some_iff.1 hk.2).1
  intro h0
  have := h1.2.wish k hlt (by rw [has_get hk.1]; exact h0)
  rw [has_get hk.1, lst_nat, hk.2] at this
  exact this

theorem s72 {P : Int} {ws : List (AV × List Int)} {v : AV} {g : List Int} {u : AV} {A : AHeap} (hw : LL A v ws) (hs : Sz ws) (hg : L1 A u g) (hE : gE P (lists ws) g = 0) :
    ACalls Try.prog 72 [.agg [I P, v], u] A (outV 1 A (cnt P (g.zip (lists ws))).length) (outH A ((cnt P (g.zip (lists ws))).flatMap e1) (cnt P (g.zip (lists ws))).length) := by
  refine acalls hmix Try.func72 (by kernel_rfl) t72 2 rfl (by decide) ?_
  obtain ⟨hv, hlen, hok⟩ := gE_facts hE
  have hP := hv.hP
  have hn := hv.n
  have hlen2 : g.length = ws.length := by simpa using hlen
  have hn2 : ws.length ≤ 7 := by simpa using hn
  have hP0 : 0 ≤ P := by omega
  have hPl : P ≤ (lim : Int) := by simp [lim]; omega
  dsimp only [m72]
  simp (maxSteps := 4000000) -implicitDefEqProofs -dsimp (disch := omega) only [↓AW_ops, ↓AW_seq, ↓AW_block, ↓AOps_nil, ↓AOps_pu, ↓AOps_ha, on_some, extK_app, ↓then_normal, pval, hval_mks, rd_S, rd_C, put_S, ↓AW_toLoop, chkd, isAdr, bgot, cells_agg, partA, beq_self_eq_true, eq_self, List.replicate_succ, List.replicate_zero, List.set_cons_zero, List.set_cons_succ, List.getElem?_cons_zero, List.getElem?_cons_succ, List.drop_zero, List.take_zero, List.take_succ_cons, Option.getD_some, List.length_cons, List.length_nil, Nat.reduceAdd, Nat.reduceSub, Nat.reduceLeDiff, Nat.zero_add, List.cons_append, List.nil_append, if_true, if_false, Bool.false_eq_true, and_true, hP0, hPl, Int.le_refl, hg.len]
  rw [repl_zero]
  have hmk := OL.new_mk e1_len A (List.replicate P.toNat (0 : Int)) true
  rw [List.length_replicate] at hmk
  generalize hvv : AV.sl 1 A.length 0 P.toNat true = vv at *
  refine LoopK.by 34 (fun x : Nat × AHeap => x.1 ≤ g.length ∧ OL 1 e1 A x.2 A.length vv (cnt P ((g.zip (lists ws)).take x.1))) (fun x => [(2, .agg [I P, v]), (5, vv), (11, u), (12, I g.length), (13, I x.1)]) (fun x => x.2) (fun x => g.length - x.1) (0, _) ⟨by simp only; omega, by simpa [cnt] using hmk⟩ rfl (by simp [Has, rd_s]) rfl ?_
  rintro ⟨i, A1⟩ ⟨hi, ho⟩
  simp only at hi ho
  have hg1 := hg.mono ho.pre
  have hw1 := hw.mono ho.pre
  by_cases hlt : i < g.length
  · obtain ⟨z, hz⟩ : ∃ z, g[i]? = some z := ⟨_, List.getElem?_eq_getElem hlt⟩
    have hlt' : (i : Int) < g.length := by omega
    have hltw : i < ws.length := by omega
    obtain ⟨x, hx⟩ : ∃ x, ws[i]? = some x := ⟨_, List.getElem?_eq_getElem hltw⟩
    have hm := List.mem_of_getElem? hx
    have hzx := zip_get hz (ws_get hx)
    have hcs := cnt_take (P := P) hzx
    by_cases hz0 : 0 ≤ z
    · have hin : z ∈ x.2 := hok _ (List.mem_of_getElem? hzx) hz0
      have hxl := hv.len (show x.2 ∈ lists ws from List.mem_map.2 ⟨x, hm, rfl⟩)
      obtain ⟨k, hk, hfp, _⟩ := fpos_in hin
      have hkl : k < (cnt P ((g.zip (lists ws)).take i)).length := by rw [cnt_len]; omega
      obtain ⟨c, hc⟩ : ∃ c, (cnt P ((g.zip (lists ws)).take i))[k]? = some c := ⟨_, List.getElem?_eq_getElem hkl⟩
      have hcb := cnt_b P ((g.zip (lists ws)).take i) c (List.mem_of_getElem? hc)
      have hcl : ((g.zip (lists ws)).take i).length ≤ 7 := by rw [List.length_take]; omega
      simp (maxSteps := 4000000) -implicitDefEqProofs -dsimp (disch := omega) only [↓AW_skip, ↓AW_ops, ↓AW_seq, ↓AW_cond, ↓AW_block, ↓AOps_nil, ↓AOps_pu, ↓AOps_ld, ↓AOps_call, on_some, condB_t, ↓then_normal, pval, lval, rd_S, rd_C, put_S, chkd, isAdr, bgot, cells_agg, partA, eq_self, mk, List.foldl_cons, List.foldl_nil, List.replicate_succ, List.replicate_zero, List.set_cons_zero, List.set_cons_succ, List.getElem?_cons_zero, List.getElem?_cons_succ, List.drop_zero, List.drop_succ_cons, List.take_succ_cons, List.take_nil, Option.getD_some, map_c, map_n, List.length_cons, List.length_nil, Nat.reduceAdd, Nat.reduceLeDiff, Nat.zero_add, bin_lss, bin_geq, if_true, if_false, Bool.false_eq_true, decide_true, Go.Eng.e1, hlt', hg1.idx hlt, hg1.ld0 hz 1 false (by decide), hz0, hw1.ls.idx hltw, hw1.ls.ld0 hx 1 false (by decide), e0]
      refine CallK.of (c_Index (hw1.inn x hm) (by omega) z) ?_
      rw [hfp]
      have hst := ho.st hkl (I (c + 1)) (c + 1) rfl
      simp (maxSteps := 4000000) -implicitDefEqProofs -dsimp (disch := omega) only [↓AW_ops, ↓AOps_nil, ↓AOps_pu, ↓AOps_ld, ↓AOps_ha, on_some, extK_false, extK_same, ↓then_normal, ↓inBlock_normal, pval, lval, hval_st, rd_S, rd_C, put_S, putS_none, partA, eq_self, mk, List.foldl_cons, List.foldl_nil, List.replicate_succ, List.replicate_zero, List.set_cons_zero, List.set_cons_succ, List.getElem?_cons_zero, List.getElem?_cons_succ, List.drop_zero, List.take_succ_cons, List.take_nil, Option.getD_some, Option.map_some, List.length_cons, List.length_nil, Nat.reduceAdd, Nat.reduceLeDiff, Nat.zero_add, bin_add, w64, if_true, if_false, Bool.false_eq_true, Go.Eng.e1, true_and, ho.ls.idx hkl, ho.ls.ld0 hc 1 false (by decide), hst]
      refine ⟨(i + 1, _), ⟨hlt, ?_⟩, by simp [Has, rd_s], rfl, by simp only; omega⟩
      have : cnt P ((g.zip (lists ws)).take (i + 1)) = (cnt P ((g.zip (lists ws)).take i)).set k (c + 1) := by
        rw [hcs]; simp [cstep, hz0, hfp, hc]
      simp only
      rw [this]
      exact ho.set k (c + 1)
    · simp (maxSteps := 4000000) -implicitDefEqProofs -dsimp (disch := omega) only [↓AW_skip, ↓AW_ops, ↓AW_seq, ↓AW_cond, ↓AW_block, ↓AOps_nil, ↓AOps_pu, ↓AOps_ld, on_some, condB_t, condB_f, ↓then_normal, ↓inBlock_normal, pval, lval, rd_S, rd_C, put_S, partA, eq_self, mk, List.foldl_cons, List.foldl_nil, List.replicate_succ, List.replicate_zero, List.set_cons_zero, List.set_cons_succ, List.getElem?_cons_zero, List.getElem?_cons_succ, List.drop_zero, List.take_succ_cons, List.take_nil, Option.getD_some, List.length_cons, List.length_nil, Nat.reduceAdd, Nat.reduceLeDiff, Nat.zero_add, bin_add, bin_lss, bin_geq, w64, if_true, if_false, Bool.false_eq_true, decide_true, decide_false, Go.Eng.e1, true_and, hlt', hg1.idx hlt, hg1.ld0 hz 1 false (by decide), hz0]
      refine ⟨(i + 1, A1), ⟨hlt, ?_⟩, by simp [Has, rd_s], rfl, by simp only; omega⟩
      simp only
      rw [hcs]
      simpa [cstep, hz0] using ho
  · have hlt' : ¬ ((i : Int) < g.length) := by omega
    rw [List.take_of_length_le (by rw [List.length_zip]; omega)] at ho
    simp (maxSteps := 4000000) -implicitDefEqProofs -dsimp (disch := omega) only [↓AW_ops, ↓AW_seq, ↓AW_cond, ↓AW_exit, ↓AW_ret, ↓AOps_nil, ↓AOps_pu, on_some, condB_f, ↓then_normal, ↓then_exit, ↓inBlock_exit, ↓Fin_ret, pval, rd_S, put_S, resV, resL, eq_self, mk, List.foldl_cons, List.foldl_nil, List.replicate_succ, List.replicate_zero, List.set_cons_zero, List.set_cons_succ, List.getElem?_cons_zero, List.getElem?_cons_succ, Option.getD_some, bin_lss, if_true, decide_false, hlt']
    exact ho.gc (by rw [cnt_len]; omega) flat_e1

def cntL (P : Int) (ls : List (List Int)) (g : List Int) : List Int := if gE P ls g = 0 then cnt P (g.zip ls) else []

theorem s37 {P : Int} {ws : List (AV × List Int)} {v : AV} {g : List Int} {u : AV} {A : AHeap} (hw : LL A v ws) (hs : Sz ws) (hg : L1 A u g) (hgl : g.length ≤ 1000000) :
    ACalls Try.prog 37 [.agg [I P, v], u] A (.tuple [outV 1 A (cntL P (lists ws) g).length, I (gE P (lists ws) g)]) (outH A ((cntL P (lists ws) g).flatMap e1) (cntL P (lists ws) g).length) := by
  refine acalls hmix Try.func37 (by kernel_rfl) t37 2 rfl (by decide) ?_
  dsimp only [m37]
  simp (maxSteps := 4000000) -implicitDefEqProofs -dsimp (disch := omega) only [↓AW_ops, ↓AW_seq, ↓AOps_nil, ↓AOps_pu, ↓AOps_call, on_some, ↓then_normal, pval, rd_S, rd_C, put_S, chkd, bgot, AV.cells?, partA, eq_self, List.replicate_succ, List.replicate_zero, List.set_cons_zero, List.set_cons_succ, List.getElem?_cons_zero, List.getElem?_cons_succ, List.drop_zero, List.take_succ_cons, List.take_nil, Option.getD_some, map_c, map_n, List.length_cons, List.length_nil, Nat.reduceAdd, Nat.reduceSub, Nat.reduceLeDiff, Nat.reduceEqDiff, Nat.zero_add, List.cons_append, List.nil_append, if_true, if_false]
  refine CallK.of (s33 hw hs hg hgl) ?_
  by_cases hE : gE P (lists ws) g = 0
  · have hc : cntL P (lists ws) g = cnt P (g.zip (lists ws)) := by unfold cntL; rw [if_pos hE]
    rw [hc]
    simp (maxSteps := 4000000) -implicitDefEqProofs -dsimp (disch := omega) only [↓AW_skip, ↓AW_ops, ↓AW_seq, ↓AW_cond, ↓AOps_nil, ↓AOps_pu, ↓AOps_call, on_some, extK_same, condB_f, ↓then_normal, pval, rd_S, rd_C, put_S, chkd, bgot, partA, eq_self, List.replicate_succ, List.replicate_zero, List.set_cons_zero, List.set_cons_succ, List.getElem?_cons_zero, List.getElem?_cons_succ, List.drop_zero, List.take_succ_cons, List.take_nil, Option.getD_some, map_c, map_n, List.length_cons, List.length_nil, Nat.reduceAdd, Nat.reduceSub, Nat.reduceLeDiff, Nat.reduceEqDiff, Nat.zero_add, List.cons_append, List.nil_append, bin_neq, if_true, if_false, decide_false, not_true_eq_false, hE]
    refine CallK.of (s72 hw hs hg hE) ?_
    simp (maxSteps := 4000000) -implicitDefEqProofs -dsimp (disch := omega) only [↓AW_ret, ↓AOps_nil, ↓AOps_pu, on_some, extK_false, ↓then_normal, ↓Fin_ret, pval, rd_S, rd_C, put_S, resV, resL, List.replicate_succ, List.replicate_zero, List.set_cons_zero, List.set_cons_succ, List.getElem?_cons_zero, List.getElem?_cons_succ, Option.getD_some, Nat.reduceSub, List.cons_append, List.nil_append]
    exact gc_same_all (by rw [hE]) rfl
  · have hc : cntL P (lists ws) g = [] := by unfold cntL; rw [if_neg hE]
    rw [hc]
    simp (maxSteps := 4000000) -implicitDefEqProofs -dsimp (disch := omega) only [↓AW_ops, ↓AW_seq, ↓AW_cond, ↓AW_ret, ↓AOps_nil, ↓AOps_pu, on_some, extK_same, condB_t, ↓then_normal, ↓then_ret, ↓Fin_ret, pval, rd_S, rd_C, put_S, resV, resL, List.replicate_succ, List.replicate_zero, List.set_cons_zero, List.set_cons_succ, List.getElem?_cons_zero, List.getElem?_cons_succ, Option.getD_some, List.length_nil, Nat.reduceSub, List.cons_append, List.nil_append, bin_neq, decide_true, not_false_eq_true, hE]
    exact gc_same_all rfl rfl

theorem s38 {P : Int} {ws : List (AV × List Int)} {v : AV} {g : List Int} {u : AV} {A : AHeap} (hw : LL A v ws) (hs : Sz ws) (hg : L1 A u g) (hgl : g.length ≤ 1000000) :
    ACalls Try.prog 38 [.agg [I P, v], u] A (.tuple [outV 1 A (cntL P (lists ws) g).length, I (gE P (lists ws) g)]) (outH A ((cntL P (lists ws) g).flatMap e1) (cntL P (lists ws) g).length) := by
  refine acalls hmix Try.func38 (by kernel_rfl) t38 2 rfl (by decide) ?_
  dsimp only [m38]
  simp (maxSteps := 4000000) -implicitDefEqProofs -dsimp (disch := omega) only [↓AW_ops, ↓AW_seq, ↓AOps_nil, ↓AOps_pu, ↓AOps_call, on_some, ↓then_normal, pval, rd_S, rd_C, put_S, chkd, bgot, AV.cells?, partA, eq_self, List.replicate_succ, List.replicate_zero, List.set_cons_zero, List.set_cons_succ, List.getElem?_cons_zero, List.getElem?_cons_succ, List.drop_zero, List.take_succ_cons, List.take_nil, Option.getD_some, map_c, map_n, List.length_cons, List.length_nil, Nat.reduceAdd, Nat.reduceSub, Nat.reduceLeDiff, Nat.reduceEqDiff, Nat.zero_add, List.cons_append, List.nil_append, if_true, if_false]
  refine CallK.of (s27 hw hs hg hgl) ?_
  by_cases hE : gE P (lists ws) g = 0
  · have hc : cntL P (lists ws) g = cnt P (g.zip (lists ws)) := by unfold cntL; rw [if_pos hE]
    rw [hc]
    obtain ⟨hv, hlen, hok⟩ := gE_facts hE
    have hP := hv.hP
    have hn := hv.n
    have hlen2 : g.length = ws.length := by simpa using hlen
    have hn2 : ws.length ≤ 7 := by simpa using hn
    have hP0 : 0 ≤ P := by omega
    have hPl : P ≤ (lim : Int) := by simp [lim]; omega
    simp (maxSteps := 4000000) -implicitDefEqProofs -dsimp (disch := omega) only [↓AW_skip, ↓AW_ops, ↓AW_seq, ↓AW_cond, ↓AW_block, ↓AOps_nil, ↓AOps_pu, ↓AOps_ha, on_some, extK_app, extK_same, condB_f, ↓then_normal, pval, hval_mks, rd_S, rd_C, put_S, ↓AW_toLoop, chkd, isAdr, bgot, cells_agg, partA, beq_self_eq_true, eq_self, List.replicate_succ, List.replicate_zero, List.set_cons_zero, List.set_cons_succ, List.getElem?_cons_zero, List.getElem?_cons_succ, List.drop_zero, List.take_zero, List.take_succ_cons, Option.getD_some, List.length_cons, List.length_nil, Nat.reduceAdd, Nat.reduceSub, Nat.reduceLeDiff, Nat.zero_add, List.cons_append, List.nil_append, bin_neq, if_true, if_false, Bool.false_eq_true, decide_false, and_true, not_true_eq_false, hE, hP0, hPl, Int.le_refl]
    rw [repl_zero]
    have hmk := OL.new_mk e1_len A (List.replicate P.toNat (0 : Int)) true
    rw [List.length_replicate] at hmk
    generalize hvv : AV.sl 1 A.length 0 P.toNat true = vv at *
    refine LoopK.by 59 (fun x : Nat × AHeap => x.1 ≤ g.length ∧ OL 1 e1 A x.2 A.length vv (cnt P ((g.zip (lists ws)).take x.1))) (fun x => [(1, u), (2, .agg [I P, v]), (8, vv), (9, I x.1)]) (fun x => x.2) (fun x => g.length - x.1) (0, _) ⟨by simp only; omega, by simpa [cnt] using hmk⟩ rfl (by simp [Has, rd_s]) rfl ?_
    rintro ⟨i, A1⟩ ⟨hi, ho⟩
    simp only at hi ho
    have hg1 := hg.mono ho.pre
    by_cases hlt : i < g.length
    · obtain ⟨z, hz⟩ : ∃ z, g[i]? = some z := ⟨_, List.getElem?_eq_getElem hlt⟩
      have hlt' : (i : Int) < g.length := by omega
      have hltw : i < ws.length := by omega
      obtain ⟨x, hx⟩ : ∃ x, ws[i]? = some x := ⟨_, List.getElem?_eq_getElem hltw⟩
      have hm := List.mem_of_getElem? hx
      have hzx := zip_get hz (ws_get hx)
      have hcs := cnt_take (P := P) hzx
      have hxm : x.2 ∈ lists ws := List.mem_map.2 ⟨x, hm, rfl⟩
      have hxl := hv.len hxm
      have hxn := hv.l x.2 hxm
      simp (maxSteps := 4000000) -implicitDefEqProofs -dsimp (disch := omega) only [↓AW_skip, ↓AW_ops, ↓AW_seq, ↓AW_cond, ↓AW_block, ↓AOps_nil, ↓AOps_pu, on_some, condB_t, ↓then_normal, pval, rd_S, rd_C, put_S, ↓AW_toLoop, mk, List.foldl_cons, List.foldl_nil, List.replicate_succ, List.replicate_zero, List.set_cons_zero, List.set_cons_succ, List.getElem?_cons_zero, List.getElem?_cons_succ, Option.getD_some, bin_lss, decide_true, hlt', hg1.len]
      refine LoopK.by 59 (fun y : Nat × AHeap => y.1 ≤ x.2.length ∧ OL 1 e1 A y.2 A.length vv (if z ∈ x.2.take y.1 then cnt P ((g.zip (lists ws)).take (i + 1)) else cnt P ((g.zip (lists ws)).take i))) (fun y => [(1, u), (2, .agg [I P, v]), (8, vv), (9, I i), (10, I y.1)]) (fun y => y.2) (fun y => x.2.length - y.1) (0, A1) ⟨by simp only; omega, by simpa using ho⟩ rfl (by simp [Has, rd_s]) rfl ?_
      rintro ⟨k, A2⟩ ⟨hk, ho2⟩
      simp only at hk ho2
      have hg2 := hg.mono ho2.pre
      have hw2 := hw.mono ho2.pre
      have hx2 := hw2.inn x hm
      by_cases hltk : k < x.2.length
      · obtain ⟨p, hzp⟩ : ∃ p, x.2[k]? = some p := ⟨_, List.getElem?_eq_getElem hltk⟩
        have hltk' : (k : Int) < x.2.length := by omega
        have hmt := take_mem (y := z) hzp
        by_cases hpz : p = z
        · subst hpz
          have hnk : ¬ p ∈ x.2.take k := fun h => not_nodup hzp h hxn.2
          rw [if_neg hnk] at ho2
          have hfp := fpos_at hxn.2 hzp
          have hp0 : 0 ≤ p := (hxn.1 p (List.mem_of_getElem? hzp)).1
          have hkl : k < (cnt P ((g.zip (lists ws)).take i)).length := by rw [cnt_len]; omega
          obtain ⟨c, hc⟩ : ∃ c, (cnt P ((g.zip (lists ws)).take i))[k]? = some c := ⟨_, List.getElem?_eq_getElem hkl⟩
          have hcb := cnt_b P ((g.zip (lists ws)).take i) c (List.mem_of_getElem? hc)
          have hcl : ((g.zip (lists ws)).take i).length ≤ 7 := by rw [List.length_take]; omega
          have hst := ho2.st hkl (I (c + 1)) (c + 1) rfl
          simp (maxSteps := 4000000) -implicitDefEqProofs -dsimp (disch := omega) only [↓AW_skip, ↓AW_ops, ↓AW_seq, ↓AW_cond, ↓AW_block, ↓AOps_nil, ↓AOps_pu, ↓AOps_ld, ↓AOps_ha, on_some, extK_false, condB_t, ↓then_normal, ↓inBlock_normal, pval, lval, hval_st, rd_S, rd_C, put_S, putS_none, chkd, isAdr, bgot, cells_agg, partA, eq_self, mk, List.foldl_cons, List.foldl_nil, List.replicate_succ, List.replicate_zero, List.set_cons_zero, List.set_cons_succ, List.getElem?_cons_zero, List.getElem?_cons_succ, List.drop_zero, List.drop_succ_cons, List.take_succ_cons, List.take_nil, Option.getD_some, Option.map_some, List.length_cons, List.length_nil, Nat.reduceAdd, Nat.reduceLeDiff, Nat.zero_add, bin_add, bin_eql, bin_lss, w64, if_true, if_false, Bool.false_eq_true, decide_true, Go.Eng.e1, true_and, hltk', hw2.ls.idx hltw, hw2.ls.ld0 hx 1 false (by decide), e0, hx2.len, hx2.idx hltk, hx2.ld0 hzp 1 false (by decide), hg2.idx hlt, hg2.ld0 hz 1 false (by decide), ho2.ls.idx hkl, ho2.ls.ld0 hc 1 false (by decide), hst]
          refine ⟨(k + 1, _), ⟨hltk, ?_⟩, by simp [Has, rd_s], rfl, by simp only; omega⟩
          simp only
          rw [if_pos (hmt.2 (.inr rfl))]
          have : cnt P ((g.zip (lists ws)).take (i + 1)) = (cnt P ((g.zip (lists ws)).take i)).set k (c + 1) := by
            rw [hcs]; simp [cstep, hp0, hfp, hc]
          rw [this]
          exact ho2.set k (c + 1)
        · simp (maxSteps := 4000000) -implicitDefEqProofs -dsimp (disch := omega) only [↓AW_skip, ↓AW_ops, ↓AW_seq, ↓AW_cond, ↓AW_block, ↓AOps_nil, ↓AOps_pu, ↓AOps_ld, on_some, condB_t, condB_f, ↓then_normal, ↓inBlock_normal, pval, lval, rd_S, rd_C, put_S, chkd, isAdr, bgot, cells_agg, partA, eq_self, mk, List.foldl_cons, List.foldl_nil, List.replicate_succ, List.replicate_zero, List.set_cons_zero, List.set_cons_succ, List.getElem?_cons_zero, List.getElem?_cons_succ, List.drop_zero, List.drop_succ_cons, List.take_succ_cons, List.take_nil, Option.getD_some, List.length_cons, List.length_nil, Nat.reduceAdd, Nat.reduceLeDiff, Nat.zero_add, bin_add, bin_eql, bin_lss, w64, if_true, if_false, Bool.false_eq_true, decide_true, decide_false, Go.Eng.e1, true_and, hltk', hw2.ls.idx hltw, hw2.ls.ld0 hx 1 false (by decide), e0, hx2.len, hx2.idx hltk, hx2.ld0 hzp 1 false (by decide), hg2.idx hlt, hg2.ld0 hz 1 false (by decide), hpz]
          refine ⟨(k + 1, A2), ⟨hltk, ?_⟩, by simp [Has, rd_s], rfl, by simp only; omega⟩
          simp only
          have : z ∈ x.2.take (k + 1) ↔ z ∈ x.2.take k := by
            rw [hmt]; constructor
            · rintro (h | h)
              · exact h
              · exact absurd h.symm hpz
            · exact .inl
          by_cases hzk : z ∈ x.2.take k
          · rw [if_pos (this.2 hzk)]; rwa [if_pos hzk] at ho2
          · rw [if_neg (fun h => hzk (this.1 h))]; rwa [if_neg hzk] at ho2
      · have hltk' : ¬ ((k : Int) < x.2.length) := by omega
        rw [List.take_of_length_le (by omega)] at ho2
        simp (maxSteps := 4000000) -implicitDefEqProofs -dsimp (disch := omega) only [↓AW_ops, ↓AW_seq, ↓AW_cond, ↓AW_exit, ↓AW_ret, ↓AOps_nil, ↓AOps_pu, ↓AOps_ld, on_some, condB_f, ↓then_normal, ↓then_exit, ↓inBlock_normal, ↓inBlock_exit, ↓Fin_ret, pval, lval, rd_S, rd_C, put_S, resV, resL, chkd, isAdr, bgot, cells_agg, partA, eq_self, mk, List.foldl_cons, List.foldl_nil, List.replicate_succ, List.replicate_zero, List.set_cons_zero, List.set_cons_succ, List.getElem?_cons_zero, List.getElem?_cons_succ, List.drop_zero, List.drop_succ_cons, List.take_succ_cons, List.take_nil, Option.getD_some, List.length_cons, List.length_nil, Nat.reduceAdd, Nat.reduceLeDiff, Nat.reduceEqDiff, Nat.zero_add, bin_add, bin_lss, w64, if_true, if_false, Bool.false_eq_true, decide_false, true_and, reduceCtorEq, hltk', hw2.ls.idx hltw, hw2.ls.ld0 hx 1 false (by decide), e0, hx2.len]
        refine ⟨(i + 1, A2), ⟨hlt, ?_⟩, by simp [Has, rd_s], rfl, by simp only; omega⟩
        simp only
        by_cases hzk : z ∈ x.2
        · rwa [if_pos hzk] at ho2
        · rw [if_neg hzk] at ho2
          have : ¬ 0 ≤ z := fun h0 => hzk (hok _ (List.mem_of_getElem? hzx) h0)
          rw [hcs]
          simpa [cstep, this] using ho2
    · have hlt' : ¬ ((i : Int) < g.length) := by omega
      rw [List.take_of_length_le (by rw [List.length_zip]; omega)] at ho
      simp (maxSteps := 4000000) -implicitDefEqProofs -dsimp (disch := omega) only [↓AW_ops, ↓AW_seq, ↓AW_cond, ↓AW_exit, ↓AW_ret, ↓AOps_nil, ↓AOps_pu, on_some, condB_f, ↓then_normal, ↓then_exit, ↓inBlock_exit, ↓Fin_ret, pval, rd_S, rd_C, put_S, resV, resL, eq_self, mk, List.foldl_cons, List.foldl_nil, List.replicate_succ, List.replicate_zero, List.set_cons_zero, List.set_cons_succ, List.getElem?_cons_zero, List.getElem?_cons_succ, Option.getD_some, bin_lss, if_true, decide_false, hlt', hg1.len]
      have h1 := ho.gc2 (by rw [cnt_len]; omega) flat_e1 (I 0) rfl
      rw [hE]
      exact h1
  · have hc : cntL P (lists ws) g = [] := by unfold cntL; rw [if_neg hE]
    rw [hc]
    simp (maxSteps := 4000000) -implicitDefEqProofs -dsimp (disch := omega) only [↓AW_ops, ↓AW_seq, ↓AW_cond, ↓AW_ret, ↓AOps_nil, ↓AOps_pu, on_some, extK_same, condB_t, ↓then_normal, ↓then_ret, ↓Fin_ret, pval, rd_S, rd_C, put_S, resV, resL, List.replicate_succ, List.replicate_zero, List.set_cons_zero, List.set_cons_succ, List.getElem?_cons_zero, List.getElem?_cons_succ, Option.getD_some, List.length_nil, Nat.reduceSub, List.cons_append, List.nil_append, bin_neq, decide_true, not_false_eq_true, hE]
    exact gc_same_all rfl rfl

end Go.Proofs.Ytlmbobbefgcolaa
