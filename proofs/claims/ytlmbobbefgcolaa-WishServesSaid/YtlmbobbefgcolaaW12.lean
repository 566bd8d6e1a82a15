/- Wishes: the most, as the document finds it. No conditions. -/
import Derived.Test.YtlmbobbefgcolaaP4
import Derived.Test.YtlmbobbefgcolaaW11
namespace Go.Proofs.Ytlmbobbefgcolaa
open Go Go.Eng

def bitOk (s p : Nat) : Bool :=
  (match binI .shl (I 1) (.int .u64 (p : Int)) with | some (.int .i64 b) => decide (b = ((2 ^ p : Nat) : Int)) | _ => false) &&
  (match binI .and (I (s : Int)) (I ((2 ^ p : Nat) : Int)) with | some (.int .i64 c) => decide (c = if s.testBit p = true then ((2 ^ p : Nat) : Int) else 0) | _ => false) &&
  (match binI .or (I (s : Int)) (I ((2 ^ p : Nat) : Int)) with | some (.int .i64 c) => decide (c = ((s ||| 2 ^ p : Nat) : Int)) | _ => false) &&
  (s.testBit p || decide ((s ||| 2 ^ p) = s + 2 ^ p))
set_option maxRecDepth 100000 in
theorem bit_run : ((List.range 128).all fun s => (List.range 8).all fun p => bitOk s p) = true := by kernel_rfl

theorem bit_facts {s p : Nat} (hs : s < 128) (hp : p < 8) : binI .shl (I 1) (.int .u64 (p : Int)) = some (I ((2 ^ p : Nat) : Int)) ∧ binI .and (I (s : Int)) (I ((2 ^ p : Nat) : Int)) = some (I (if s.testBit p = true then ((2 ^ p : Nat) : Int) else 0)) ∧
    (s.testBit p = false → binI .or (I (s : Int)) (I ((2 ^ p : Nat) : Int)) = some (I ((s + 2 ^ p : Nat) : Int))) := by
  have h := List.all_eq_true.1 (List.all_eq_true.1 bit_run s (List.mem_range.2 hs)) p (List.mem_range.2 hp)
  unfold bitOk at h
  simp only [Bool.and_eq_true] at h
  obtain ⟨⟨⟨h1, h2⟩, h3⟩, h4⟩ := h
  refine ⟨?_, ?_, fun hb => ?_⟩
  · split at h1
    · rename_i b e; rw [e, of_decide_eq_true h1]
    · cases h1
  · split at h2
    · rename_i b e; rw [e, of_decide_eq_true h2]
    · cases h2
  · split at h3
    · rename_i b e
      rw [hb, Bool.false_or] at h4
      rw [e, of_decide_eq_true h3, of_decide_eq_true h4]
    · cases h3

/-- A list of truth values, by a function. -/
def tb (N : Nat) (f : Nat → Bool) : List Bool := (List.range N).map f
theorem tb_len (N : Nat) (f : Nat → Bool) : (tb N f).length = N := by simp [tb]
theorem tb_get {N : Nat} {f : Nat → Bool} {s : Nat} (h : s < N) : (tb N f)[s]? = some (f s) := by simp [tb, h]
theorem tb_congr {N : Nat} {f g : Nat → Bool} (h : ∀ t, t < N → f t = g t) : tb N f = tb N g := by
  unfold tb
  exact List.map_congr_left (fun t ht => h t (List.mem_range.1 ht))
theorem tb_set {N : Nat} {f : Nat → Bool} (j : Nat) : (tb N f).set j true = tb N (fun t => f t || t == j) := by
  apply List.ext_getElem?
  intro i
  rw [List.getElem?_set]
  by_cases h : i < N
  · rw [tb_get h]
    by_cases h2 : j = i
    · subst h2
      simp [h, tb]
    · have : ¬ i = j := fun e => h2 e.symm
      simp [h2, this, tb, h]
  · have h1 : (tb N f)[i]? = none := by rw [List.getElem?_eq_none]; rw [tb_len]; omega
    have h2 : (tb N (fun t => f t || t == j))[i]? = none := by rw [List.getElem?_eq_none]; rw [tb_len]; omega
    rw [h1, h2]
    split
    · rename_i h3; rw [tb_len, if_neg (by omega)]
    · rfl
theorem tb_false (N : Nat) : List.replicate N false = tb N (fun _ => false) := by
  apply List.ext_getElem?
  intro i
  by_cases h : i < N <;> simp [tb, h]

theorem s60 (s : Nat) (hs : s ≤ 1000000) (A : AHeap) : ACalls Try.prog 60 [I s] A (I (pc s)) A := by
  refine acalls hmix Try.func60 (by kernel_rfl) t60 1 rfl (by decide) ?_
  dsimp only [m60]
  simp (maxSteps := 4000000) -implicitDefEqProofs -dsimp (disch := omega) only [↓AW_ops, ↓AW_seq, ↓AW_block, ↓AOps_nil, ↓AOps_pu, on_some, ↓then_normal, pval, rd_C, put_S, ↓AW_toLoop, List.replicate_succ, List.replicate_zero, List.set_cons_zero, List.set_cons_succ, Nat.reduceSub, List.cons_append, List.nil_append]
  have hb : ∀ t, pc t ≤ t := by
    intro t
    induction t using Nat.strongRecOn with
    | _ t ih =>
      rw [pc_eq]
      by_cases h : t = 0
      · subst h; simp [pc_0]
      · have := ih (t / 2) (by omega); omega
  refine LoopK.by 13 (fun x : Nat × Nat => x.2 ≤ s ∧ x.1 + pc x.2 = pc s) (fun x => [(0, I x.2), (3, I x.1)]) (fun _ => A) (fun x => x.2) (0, s) ⟨Nat.le_refl _, by simp⟩ rfl (by simp [Has, rd_s]) rfl ?_
  rintro ⟨n, t⟩ ⟨ht, hn⟩
  simp only at ht hn
  have hps := hb s
  by_cases h0 : 0 < t
  · have h0' : (0 : Int) < t := by omega
    have e1 : (t : Int).tmod 2 = ((t % 2 : Nat) : Int) := by rw [Int.tmod_eq_emod_of_nonneg (by omega)]; omega
    have e2 : (t : Int).tdiv 2 = ((t / 2 : Nat) : Int) := by rw [Int.tdiv_eq_ediv_of_nonneg (by omega)]; omega
    rw [pc_eq t] at hn
    simp (maxSteps := 4000000) -implicitDefEqProofs -dsimp (disch := omega) only [↓AW_skip, ↓AW_ops, ↓AW_seq, ↓AW_cond, ↓AW_block, ↓AOps_nil, ↓AOps_pu, on_some, condB_t, ↓then_normal, ↓inBlock_normal, pval, rd_S, rd_C, put_S, eq_self, mk, List.foldl_cons, List.foldl_nil, List.replicate_succ, List.replicate_zero, List.set_cons_zero, List.set_cons_succ, List.getElem?_cons_zero, List.getElem?_cons_succ, Option.getD_some, List.length_cons, List.length_nil, Nat.reduceAdd, Nat.zero_add, bin_add, bin_quo, bin_rem, bin_gtr, w64, if_false, decide_true, true_and, Int.reduceEq, h0', e1, e2]
    exact ⟨(n + t % 2, t / 2), ⟨by simp only; omega, by simp only; omega⟩, by simp [Has, rd_s], by simp only; omega⟩
  · have h0' : ¬ (0 : Int) < t := by omega
    have : t = 0 := by omega
    subst this
    rw [pc_0] at hn
    simp (maxSteps := 4000000) -implicitDefEqProofs -dsimp (disch := omega) only [↓AW_ops, ↓AW_seq, ↓AW_cond, ↓AW_exit, ↓AW_ret, ↓AOps_nil, ↓AOps_pu, on_some, condB_f, ↓then_normal, ↓then_exit, ↓inBlock_exit, ↓Fin_ret, pval, rd_S, rd_C, put_S, resV, resL, eq_self, mk, List.foldl_cons, List.foldl_nil, List.replicate_succ, List.replicate_zero, List.set_cons_zero, List.set_cons_succ, List.getElem?_cons_zero, List.getElem?_cons_succ, Option.getD_some, bin_gtr, if_true, decide_false, h0']
    exact gc_same (by rw [← hn]; rfl)

theorem s57 {f : Nat → Bool} {N : Nat} {v : AV} {A : AHeap} (hx : Lb A v (tb N f)) (hN : N ≤ 1000) : ACalls Try.prog 57 [v] A (I (mb f N)) A := by
  refine acalls hmix Try.func57 (by kernel_rfl) t57 1 rfl (by decide) ?_
  dsimp only [m57]
  simp (maxSteps := 4000000) -implicitDefEqProofs -dsimp (disch := omega) only [↓AW_ops, ↓AW_seq, ↓AW_block, ↓AOps_nil, ↓AOps_pu, on_some, ↓then_normal, pval, rd_C, put_S, ↓AW_toLoop, List.replicate_succ, List.replicate_zero, List.set_cons_zero, List.set_cons_succ, Nat.reduceSub, List.cons_append, List.nil_append]
  have hlen : lenA v = some (I N) := by have := hx.len; rwa [tb_len] at this
  refine LoopK.by 20 (fun i : Nat => i ≤ N) (fun i => [(0, v), (3, I (mb f i)), (4, I i)]) (fun _ => A) (fun i => N - i) 0 (by omega) rfl (by simp [Has, rd_s, mb]) rfl ?_
  intro i hi
  by_cases hlt : i < N
  · have hlt' : (i : Int) < N := by omega
    have hl2 : i < (tb N f).length := by rw [tb_len]; exact hlt
    have hz := tb_get (f := f) hlt
    by_cases hf : f i = true
    · rw [hf] at hz
      have hm : mb f (i + 1) = max (mb f i) (pc i) := by rw [mb, if_pos hf]
      simp (maxSteps := 4000000) -implicitDefEqProofs -dsimp (disch := omega) only [↓AW_skip, ↓AW_ops, ↓AW_seq, ↓AW_cond, ↓AW_block, ↓AOps_nil, ↓AOps_pu, ↓AOps_ld, ↓AOps_call, on_some, condB_t, ↓then_normal, pval, lval, rd_S, put_S, partA, eq_self, mk, List.foldl_cons, List.foldl_nil, List.replicate_succ, List.replicate_zero, List.set_cons_zero, List.set_cons_succ, List.getElem?_cons_zero, List.getElem?_cons_succ, List.drop_zero, List.take_succ_cons, List.take_nil, Option.getD_some, map_c, map_n, List.length_cons, List.length_nil, Nat.reduceLeDiff, Nat.zero_add, bin_lss, if_true, if_false, Bool.false_eq_true, decide_true, hlt', hlen, hx.idx hl2, hx.ld0 hz 1 false (by decide), eb]
      refine CallK.of (s60 i (by omega) A) ?_
      simp (maxSteps := 4000000) -implicitDefEqProofs -dsimp (disch := omega) only [↓AW_ops, ↓AOps_nil, ↓AOps_pu, on_some, extK_same, ↓then_normal, ↓inBlock_normal, pval, rd_S, rd_C, put_S, eq_self, mk, List.foldl_cons, List.foldl_nil, List.replicate_succ, List.replicate_zero, List.set_cons_zero, List.set_cons_succ, List.getElem?_cons_zero, List.getElem?_cons_succ, Option.getD_some, map_c, map_n, List.length_cons, List.length_nil, Nat.reduceAdd, Nat.zero_add, bin_add, mm_max, w64, true_and]
      exact ⟨i + 1, hlt, by simp [Has, rd_s, hm]; omega, by omega⟩
    · have hf' : f i = false := by simpa using hf
      rw [hf'] at hz
      have hm : mb f (i + 1) = mb f i := by rw [mb, if_neg hf]
      simp (maxSteps := 4000000) -implicitDefEqProofs -dsimp (disch := omega) only [↓AW_skip, ↓AW_ops, ↓AW_seq, ↓AW_cond, ↓AW_block, ↓AOps_nil, ↓AOps_pu, ↓AOps_ld, on_some, condB_t, condB_f, ↓then_normal, ↓inBlock_normal, pval, lval, rd_S, rd_C, put_S, partA, eq_self, mk, List.foldl_cons, List.foldl_nil, List.replicate_succ, List.replicate_zero, List.set_cons_zero, List.set_cons_succ, List.getElem?_cons_zero, List.getElem?_cons_succ, List.drop_zero, List.take_succ_cons, List.take_nil, Option.getD_some, List.length_cons, List.length_nil, Nat.reduceAdd, Nat.reduceLeDiff, Nat.zero_add, bin_add, bin_lss, w64, if_true, if_false, Bool.false_eq_true, decide_true, true_and, hlt', hlen, hx.idx hl2, hx.ld0 hz 1 false (by decide), eb]
      exact ⟨i + 1, hlt, by simp [Has, rd_s, hm], by omega⟩
  · have hlt' : ¬ ((i : Int) < N) := by omega
    have hii : i = N := by omega
    subst hii
    simp (maxSteps := 4000000) -implicitDefEqProofs -dsimp (disch := omega) only [↓AW_ops, ↓AW_seq, ↓AW_cond, ↓AW_exit, ↓AW_ret, ↓AOps_nil, ↓AOps_pu, on_some, condB_f, ↓then_normal, ↓then_exit, ↓inBlock_exit, ↓Fin_ret, pval, rd_S, put_S, resV, resL, eq_self, mk, List.foldl_cons, List.foldl_nil, List.replicate_succ, List.replicate_zero, List.set_cons_zero, List.set_cons_succ, List.getElem?_cons_zero, List.getElem?_cons_succ, Option.getD_some, bin_lss, if_true, decide_false, hlt', hlen]
    exact gc_same rfl

/-- What one owner's list adds, set after set. -/
def nx (f : Nat → Bool) (l : List Int) (s0 t : Nat) : Bool := f t || (List.range s0).any (fun s => f s && l.any (fun p => !s.testBit p.toNat && t == s + 2 ^ p.toNat))
theorem nx_succ (f : Nat → Bool) (l : List Int) (s t : Nat) : nx f l (s + 1) t = (nx f l s t || (f s && l.any (fun p => !s.testBit p.toNat && t == s + 2 ^ p.toNat))) := by
  unfold nx
  rw [List.range_succ, List.any_append]
  simp [Bool.or_assoc]
theorem nx_end (f : Nat → Bool) (l : List Int) {N t : Nat} (ht : t < N) : nx f l N t = cb f l t := by
  unfold nx cb
  congr 1
  rw [Bool.eq_iff_iff, List.any_eq_true, List.any_eq_true]
  constructor
  · rintro ⟨s, hs, h⟩
    simp only [Bool.and_eq_true, List.any_eq_true, Bool.not_eq_true', beq_iff_eq] at h
    obtain ⟨hf, p, hp, hb, rfl⟩ := h
    refine ⟨p, hp, ?_⟩
    rw [tb_add _ _ _ hb, Nat.add_sub_cancel]
    simp [hf]
  · rintro ⟨p, hp, h⟩
    simp only [Bool.and_eq_true] at h
    obtain ⟨s, h1, h2⟩ := tb_sub _ _ h.1
    have h3 : t - 2 ^ p.toNat = s := by omega
    rw [h3] at h
    have h4 := Nat.two_pow_pos p.toNat
    refine ⟨s, List.mem_range.2 (by omega), ?_⟩
    simp only [Bool.and_eq_true, List.any_eq_true, Bool.not_eq_true', beq_iff_eq]
    exact ⟨h.2, p, hp, h1, h2⟩

theorem app_fresh {α : Type} {es : Nat} {e : α → List AV} {B : AHeap} {y : AV} {ys : List α} (hy : Ls es e B y ys) {n : Nat} (hn : B[n]? = some (.cells true [])) (h0 : 0 < ys.length) (hl : ys.length ≤ lim) :
    appA es B (.sl es n 0 0 true) y = some (.sl es B.length 0 ys.length false, B ++ [.cells true (ys.flatMap e)]) := by
  unfold appA
  rw [hy.hc]
  have : ys.length ≠ 0 := by omega
  simp [this, hn, hl]

theorem OL_base {α : Type} {es : Nat} {e : α → List AV} {A B H : AHeap} {n : Nat} {v : AV} {xs : List α} (hp : A <+: B) (h : OL es e B H n v xs) : OL es e A H n v xs := ⟨h.he, hp.trans h.pre, Nat.le_trans hp.length_le h.new, h.ob, h.v⟩

theorem flat_eb (b : Bool) : ∀ y ∈ eb b, flat y = true := by simp [eb, flat]

set_option maxHeartbeats 1000000 in
theorem s58 {P : Int} {ws : List (AV × List Int)} {A : AHeap} {v : AV} (hv : Val P (lists ws)) (hw : LL A v ws) (wo : Int) :
    ACalls Try.prog 58 [.agg [I P, v], I wo] A (.sl 1 A.length 0 (2 ^ P.toNat) false) (A ++ [.cells true ((tb (2 ^ P.toNat) (cF (lists ws) wo ws.length)).flatMap eb)]) := by
  refine acalls hmix Try.func58 (by kernel_rfl) t58 2 rfl (by decide) ?_
  have hP := hv.hP
  have hn : ws.length ≤ 7 := by simpa using hv.n
  have hls : ∀ l ∈ lists ws, ∀ p ∈ l, inP P p := fun l hl => (hv.l l hl).1
  obtain ⟨p', hp', hpn⟩ : ∃ p' : Nat, P = (p' : Int) ∧ P.toNat = p' := ⟨P.toNat, by omega, rfl⟩
  rw [hpn]
  have hp7 : p' ≤ 7 := by omega
  have hpow : 2 ^ p' ≤ 128 := by
    have : 2 ^ p' ≤ 2 ^ 7 := Nat.pow_le_pow_right (by omega) hp7
    omega
  have hpow0 : 0 < 2 ^ p' := Nat.pow_pos (by omega)
  have hshl := (bit_facts (s := 0) (p := p') (by omega) (by omega)).1
  have hcv := u64w P (by omega) (by omega)
  rw [hp'] at hcv ⊢
  generalize hN : 2 ^ p' = N at *
  have hN0 : (0 : Int) ≤ (N : Int) := by omega
  have hNl : (N : Int) ≤ (lim : Int) := by simp [lim]; omega
  dsimp only [m58]
  simp (maxSteps := 4000000) -implicitDefEqProofs -dsimp (disch := omega) only [↓AW_ops, ↓AW_seq, ↓AOps_nil, ↓AOps_pu, ↓AOps_ha, on_some, extK_app, ↓then_normal, pval, hval_mks, rd_S, rd_C, put_S, chkd, isAdr, bgot, cells_agg, partA, beq_self_eq_true, eq_self, List.replicate_succ, List.replicate_zero, List.set_cons_zero, List.set_cons_succ, List.getElem?_cons_zero, List.getElem?_cons_succ, List.drop_zero, List.take_zero, List.take_succ_cons, Option.getD_some, List.length_cons, List.length_nil, Nat.reduceAdd, Nat.reduceSub, Nat.reduceLeDiff, Nat.zero_add, List.cons_append, List.nil_append, if_true, if_false, Bool.false_eq_true, and_true, hcv, hshl, hN0, hNl, Int.le_refl, Int.toNat_natCast]
  rw [repl_false]
  have hmk := OL.new_mk eb_len A (List.replicate N false) true
  rw [List.length_replicate] at hmk
  have hst := hmk.st (i := 0) (by simp; omega) (B true) true rfl
  rw [Nat.zero_mul, Nat.add_zero] at hst
  have hOL := hmk.set 0 true
  have h0N : 0 < (List.replicate N false).length := by simp; omega
  generalize hvv : AV.sl 1 A.length 0 N true = vv at *
  simp (maxSteps := 4000000) -implicitDefEqProofs -dsimp (disch := omega) only [↓AW_ops, ↓AW_seq, ↓AW_block, ↓AOps_nil, ↓AOps_pu, ↓AOps_ha, on_some, extK_false, ↓then_normal, pval, hval_st, rd_S, rd_C, put_S, putS_none, ↓AW_toLoop, List.replicate_succ, List.replicate_zero, List.set_cons_zero, List.set_cons_succ, List.getElem?_cons_zero, List.getElem?_cons_succ, Option.getD_some, Option.map_some, Nat.reduceSub, Nat.reduceMul, Nat.add_zero, List.cons_append, List.nil_append, hmk.ls.idxI (k := .i64) (i := 0) (by omega) (by omega), Int.toNat_zero, hst]
  have hset : (List.replicate N false).set 0 true = tb N (cF (lists ws) wo 0) := by
    rw [tb_false, tb_set]
    refine tb_congr (fun t _ => ?_)
    simp [cF]
  rw [hset] at hOL ⊢
  refine LoopK.by 74 (fun x : Nat × AV × Nat × AHeap => x.1 ≤ ws.length ∧ OL 1 eb A x.2.2.2 x.2.2.1 x.2.1 (tb N (cF (lists ws) wo x.1))) (fun x => [(1, I wo), (2, .agg [I (p' : Int), v]), (5, x.2.1), (6, I x.1)]) (fun x => x.2.2.2) (fun x => ws.length - x.1) (0, vv, A.length, _) ⟨by simp only; omega, hOL⟩ rfl (by simp [Has, rd_s]) rfl ?_
  rintro ⟨i, vc, nc, H⟩ ⟨hi, hc⟩
  simp only at hi hc
  have hwH := hw.mono hc.pre
  by_cases hlt : i < ws.length
  · obtain ⟨x, hz⟩ : ∃ z, ws[i]? = some z := ⟨_, List.getElem?_eq_getElem hlt⟩
    have hlt' : (i : Int) < ws.length := by omega
    have hm := List.mem_of_getElem? hz
    have hlx := lst_at hz
    have hxP := hls x.2 (List.mem_map.2 ⟨x, hm, rfl⟩)
    have hxl := hv.len (List.mem_map.2 ⟨x, hm, rfl⟩ : x.2 ∈ lists ws)
    by_cases hwo : (i : Int) = wo
    · subst hwo
      simp (maxSteps := 4000000) -implicitDefEqProofs -dsimp (disch := omega) only [↓AW_skip, ↓AW_ops, ↓AW_seq, ↓AW_cond, ↓AW_block, ↓AW_exit, ↓AW_ret, ↓AOps_nil, ↓AOps_pu, on_some, condB_t, ↓then_normal, ↓then_exit, ↓inBlock_exit, ↓Fin_ret, pval, rd_S, rd_C, put_S, resV, resL, chkd, isAdr, bgot, cells_agg, partA, eq_self, mk, List.foldl_cons, List.foldl_nil, List.replicate_succ, List.replicate_zero, List.set_cons_zero, List.set_cons_succ, List.getElem?_cons_zero, List.getElem?_cons_succ, List.drop_zero, List.drop_succ_cons, List.take_succ_cons, List.take_nil, Option.getD_some, List.length_cons, List.length_nil, Nat.reduceAdd, Nat.reduceLeDiff, Nat.zero_add, bin_add, bin_eql, bin_lss, w64, if_true, if_false, Bool.false_eq_true, decide_true, true_and, reduceCtorEq, hlt', hwH.ls.len]
      refine ⟨(i + 1, vc, nc, H), ⟨hlt, ?_⟩, by simp [Has, rd_s], rfl, by simp only; omega⟩
      simp only
      have : tb N (cF (lists ws) i (i + 1)) = tb N (cF (lists ws) i i) := tb_congr (fun t _ => by rw [cF, if_pos rfl])
      rw [this]; exact hc
    · generalize hfi : cF (lists ws) wo i = f at *
      have pB := pre_app H [.cells true []]
      have hcB := hc.ls.mono pB
      have happ := app_fresh hcB (get_new H (.cells true [])) (by rw [tb_len]; exact hpow0) (by rw [tb_len]; simp [lim]; omega)
      rw [tb_len] at happ
      have hlc : lenA vc = some (I N) := by have := hc.ls.len; rwa [tb_len] at this
      have hO2 := OL.new_mk eb_len (H ++ [.cells true []]) (tb N f) false
      rw [tb_len] at hO2
      simp (maxSteps := 4000000) -implicitDefEqProofs -dsimp (disch := omega) only [↓AW_skip, ↓AW_ops, ↓AW_seq, ↓AW_cond, ↓AW_block, ↓AOps_nil, ↓AOps_pu, ↓AOps_ha, on_some, extK_app, condB_t, condB_f, ↓then_normal, pval, hval_blds, hval_app, rd_S, rd_C, put_S, ↓AW_toLoop, chkd, isAdr, bgot, cells_agg, partA, fillA, repl, eq_self, mk, List.foldl_cons, List.foldl_nil, List.replicate_succ, List.replicate_zero, List.set_cons_zero, List.set_cons_succ, List.getElem?_cons_zero, List.getElem?_cons_succ, List.drop_zero, List.drop_succ_cons, List.take_succ_cons, List.take_nil, Option.getD_some, map_n, List.length_cons, List.length_nil, Nat.reduceAdd, Nat.reduceLeDiff, Nat.zero_add, bin_eql, bin_lss, if_true, if_false, Bool.false_eq_true, decide_true, decide_false, hlt', hwH.ls.len, hwo, List.replicate_zero, repl, happ]
      have hwB := hwH.mono pB
      generalize hBB : H ++ [AObj.cells true []] = Bh at *
      generalize hvn : AV.sl 1 Bh.length 0 N false = vn at *
      have h0 : tb N f = tb N (nx f x.2 0) := tb_congr (fun t _ => by simp [nx])
      rw [h0] at hO2 ⊢
      refine LoopK.by 74 (fun y : Nat × AHeap => y.1 ≤ N ∧ OL 1 eb Bh y.2 Bh.length vn (tb N (nx f x.2 y.1))) (fun y => [(1, I wo), (2, .agg [I (p' : Int), v]), (5, vc), (6, I i), (7, vn), (8, I y.1)]) (fun y => y.2) (fun y => N - y.1) (0, _) ⟨by simp only; omega, hO2⟩ rfl (by simp [Has, rd_s]) rfl ?_
      rintro ⟨s, Hs⟩ ⟨hs, ho⟩
      simp only at hs ho
      by_cases hsN : s < N
      · have hsN' : (s : Int) < N := by omega
        have hsl : s < (tb N f).length := by rw [tb_len]; exact hsN
        have hgs := tb_get (f := f) hsN
        simp (maxSteps := 4000000) -implicitDefEqProofs -dsimp (disch := omega) only [↓AW_skip, ↓AW_ops, ↓AW_seq, ↓AW_cond, ↓AW_block, ↓AOps_nil, ↓AOps_pu, on_some, condB_t, ↓then_normal, pval, rd_S, rd_C, put_S, ↓AW_toLoop, mk, List.foldl_cons, List.foldl_nil, List.replicate_succ, List.replicate_zero, List.set_cons_zero, List.set_cons_succ, List.getElem?_cons_zero, List.getElem?_cons_succ, Option.getD_some, bin_lss, decide_true, hsN', hlc]
        refine LoopK.by 74 (fun y : Nat × AHeap => y.1 ≤ x.2.length ∧ (f s = false → y.1 = 0) ∧ OL 1 eb Bh y.2 Bh.length vn (tb N (fun t => nx f x.2 s t || (x.2.take y.1).any (fun p => !s.testBit p.toNat && t == s + 2 ^ p.toNat)))) (fun y => [(1, I wo), (2, .agg [I (p' : Int), v]), (5, vc), (6, I i), (7, vn), (8, I s), (9, I y.1)]) (fun y => y.2) (fun y => x.2.length - y.1) (0, Hs) ⟨by simp only; omega, fun _ => rfl, by simpa using ho⟩ rfl (by simp [Has, rd_s]) rfl ?_
        rintro ⟨k, Hk⟩ ⟨hk, hk0, hok⟩
        simp only at hk hk0 hok
        have hwk := hwB.mono hok.pre
        have hck := hcB.mono hok.pre
        have hxk := hwk.inn x hm
        by_cases hltk : k < x.2.length
        · have hltk' : (k : Int) < x.2.length := by omega
          obtain ⟨p, hzp⟩ : ∃ p, x.2[k]? = some p := ⟨_, List.getElem?_eq_getElem hltk⟩
          have hpp := hxP p (List.mem_of_getElem? hzp)
          by_cases hf : f s = true
          · rw [hf] at hgs
            obtain ⟨pn, hpe, hpt⟩ : ∃ pn : Nat, p = (pn : Int) ∧ p.toNat = pn := ⟨p.toNat, by have := hpp.1; omega, rfl⟩
            have hpn7 : pn < p' := by have := hpp.2; omega
            obtain ⟨b1, b2, b3⟩ := bit_facts (s := s) (p := pn) (by omega) (by omega)
            have hcvp := u64w p hpp.1 (by have := hpp.2; omega)
            have hstep : ∀ t, ((x.2.take (k + 1)).any (fun p => !s.testBit p.toNat && t == s + 2 ^ p.toNat)) = ((x.2.take k).any (fun p => !s.testBit p.toNat && t == s + 2 ^ p.toNat) || (!s.testBit pn && t == s + 2 ^ pn)) := fun t => by
              rw [List.take_add_one, hzp, List.any_append]
              simp [hpt]
            rw [hpe] at hcvp
            by_cases hb : s.testBit pn = true
            · rw [if_pos hb] at b2
              have hne : ¬ ((2 ^ pn : Nat) : Int) = 0 := by have : 0 < 2 ^ pn := Nat.pow_pos (by omega); omega
              simp (maxSteps := 4000000) -implicitDefEqProofs -dsimp (disch := omega) only [↓AW_skip, ↓AW_ops, ↓AW_seq, ↓AW_cond, ↓AW_block, ↓AOps_nil, ↓AOps_pu, ↓AOps_ld, ↓AOps_guard, on_some, guardB_tt, condB_t, condB_f, ↓then_normal, ↓inBlock_normal, pval, lval, rd_S, rd_C, put_S, chkd, isAdr, bgot, cells_agg, partA, eq_self, mk, List.foldl_cons, List.foldl_nil, List.replicate_succ, List.replicate_zero, List.set_cons_zero, List.set_cons_succ, List.getElem?_cons_zero, List.getElem?_cons_succ, List.drop_zero, List.drop_succ_cons, List.take_succ_cons, List.take_nil, Option.getD_some, List.length_cons, List.length_nil, Nat.reduceAdd, Nat.reduceLeDiff, Nat.zero_add, bin_add, bin_eql, bin_lss, w64, if_true, if_false, Bool.false_eq_true, decide_true, decide_false, Go.Eng.e1, true_and, hltk', hwk.ls.idx hlt, hwk.ls.ld0 hz 1 false (by decide), e0, hck.idx hsl, hck.ld0 hgs 1 false (by decide), eb, hxk.len, hxk.idx hltk, hxk.ld0 hzp 1 false (by decide), hpe, hcvp, b1, b2, hne]
              refine ⟨(k + 1, Hk), ⟨hltk, (fun h => by rw [hf] at h; cases h), ?_⟩, by simp [Has, rd_s], rfl, by simp only; omega⟩
              simp only
              have : tb N (fun t => nx f x.2 s t || (x.2.take (k + 1)).any (fun p => !s.testBit p.toNat && t == s + 2 ^ p.toNat)) = tb N (fun t => nx f x.2 s t || (x.2.take k).any (fun p => !s.testBit p.toNat && t == s + 2 ^ p.toNat)) := tb_congr (fun t _ => by rw [hstep t, hb]; simp)
              rw [this]; exact hok
            · have hb' : s.testBit pn = false := by simpa using hb
              rw [if_neg hb] at b2
              have b3' := b3 hb'
              have hsum : s + 2 ^ pn < N := by
                have h5 : s + 2 ^ pn < 2 ^ p' := by
                  refine Nat.lt_pow_two_of_testBit _ (fun q hq => ?_)
                  rw [tb_add _ _ _ hb']
                  have : s.testBit q = false := Nat.testBit_lt_two_pow (Nat.lt_of_lt_of_le (by rw [hN]; exact hsN) (Nat.pow_le_pow_right (by omega) hq))
                  rw [this]
                  simp; omega
                rw [hN] at h5; exact h5
              have hstk := hok.st (i := s + 2 ^ pn) (by rw [tb_len]; exact hsum) (B true) true rfl
              have hidx := hok.ls.idx (k := .i64) (i := s + 2 ^ pn) (by rw [tb_len]; exact hsum)
              simp (maxSteps := 4000000) -implicitDefEqProofs -dsimp (disch := omega) only [↓AW_skip, ↓AW_ops, ↓AW_seq, ↓AW_cond, ↓AW_block, ↓AOps_nil, ↓AOps_pu, ↓AOps_ld, ↓AOps_ha, ↓AOps_guard, on_some, extK_false, guardB_tt, condB_t, ↓then_normal, ↓inBlock_normal, pval, lval, hval_st, rd_S, rd_C, put_S, putS_none, chkd, isAdr, bgot, cells_agg, partA, eq_self, mk, List.foldl_cons, List.foldl_nil, List.replicate_succ, List.replicate_zero, List.set_cons_zero, List.set_cons_succ, List.getElem?_cons_zero, List.getElem?_cons_succ, List.drop_zero, List.drop_succ_cons, List.take_succ_cons, List.take_nil, Option.getD_some, Option.map_some, List.length_cons, List.length_nil, Nat.reduceAdd, Nat.reduceLeDiff, Nat.zero_add, bin_add, bin_eql, bin_lss, w64, if_true, if_false, Bool.false_eq_true, decide_true, Go.Eng.e1, true_and, hltk', hwk.ls.idx hlt, hwk.ls.ld0 hz 1 false (by decide), e0, hck.idx hsl, hck.ld0 hgs 1 false (by decide), eb, hxk.len, hxk.idx hltk, hxk.ld0 hzp 1 false (by decide), hpe, hcvp, b1, b2, b3', hidx, hstk]
              refine ⟨(k + 1, _), ⟨hltk, (fun h => by rw [hf] at h; cases h), ?_⟩, by simp [Has, rd_s], rfl, by simp only; omega⟩
              simp only
              have : tb N (fun t => nx f x.2 s t || (x.2.take (k + 1)).any (fun p => !s.testBit p.toNat && t == s + 2 ^ p.toNat)) = (tb N (fun t => nx f x.2 s t || (x.2.take k).any (fun p => !s.testBit p.toNat && t == s + 2 ^ p.toNat))).set (s + 2 ^ pn) true := by
                rw [tb_set]
                exact tb_congr (fun t _ => by rw [hstep t, hb']; simp [Bool.or_assoc])
              rw [this]; exact hok.set _ _
          · have hf' : f s = false := by simpa using hf
            have hk00 := hk0 hf'
            rw [hf'] at hgs
            simp (maxSteps := 4000000) -implicitDefEqProofs -dsimp (disch := omega) only [↓AW_ops, ↓AW_seq, ↓AW_cond, ↓AW_exit, ↓AW_ret, ↓AOps_nil, ↓AOps_pu, ↓AOps_ld, ↓AOps_guard, on_some, guardB_tt, condB_f, ↓then_normal, ↓then_exit, ↓inBlock_normal, ↓inBlock_exit, ↓Fin_ret, pval, lval, rd_S, rd_C, put_S, resV, resL, chkd, isAdr, bgot, cells_agg, partA, eq_self, mk, List.foldl_cons, List.foldl_nil, List.replicate_succ, List.replicate_zero, List.set_cons_zero, List.set_cons_succ, List.getElem?_cons_zero, List.getElem?_cons_succ, List.drop_zero, List.drop_succ_cons, List.take_succ_cons, List.take_nil, Option.getD_some, List.length_cons, List.length_nil, Nat.reduceAdd, Nat.reduceLeDiff, Nat.reduceEqDiff, Nat.zero_add, bin_add, bin_lss, w64, if_true, if_false, Bool.false_eq_true, decide_true, true_and, reduceCtorEq, hltk', hwk.ls.idx hlt, hwk.ls.ld0 hz 1 false (by decide), e0, hxk.len, hck.idx hsl, hck.ld0 hgs 1 false (by decide), eb]
            refine ⟨(s + 1, Hk), ⟨hsN, ?_⟩, by simp [Has, rd_s], rfl, by simp only; omega⟩
            simp only
            have : tb N (nx f x.2 (s + 1)) = tb N (fun t => nx f x.2 s t || (x.2.take k).any (fun p => !s.testBit p.toNat && t == s + 2 ^ p.toNat)) := tb_congr (fun t _ => by rw [nx_succ, hf', hk00]; simp)
            rw [this]; exact hok
        · have hltk' : ¬ ((k : Int) < x.2.length) := by omega
          rw [List.take_of_length_le (by omega)] at hok
          simp (maxSteps := 4000000) -implicitDefEqProofs -dsimp (disch := omega) only [↓AW_ops, ↓AW_seq, ↓AW_cond, ↓AW_exit, ↓AW_ret, ↓AOps_nil, ↓AOps_pu, ↓AOps_ld, ↓AOps_guard, on_some, guardB_ft, skipS_some, condB_f, ↓then_normal, ↓then_exit, ↓inBlock_normal, ↓inBlock_exit, ↓Fin_ret, pval, lval, rd_S, rd_C, put_S, resV, resL, chkd, isAdr, bgot, cells_agg, partA, eq_self, mk, List.foldl_cons, List.foldl_nil, List.replicate_succ, List.replicate_zero, List.set_cons_zero, List.set_cons_succ, List.getElem?_cons_zero, List.getElem?_cons_succ, List.drop_zero, List.drop_succ_cons, List.take_succ_cons, List.take_nil, Option.getD_some, List.length_cons, List.length_nil, Nat.reduceAdd, Nat.reduceLeDiff, Nat.reduceEqDiff, Nat.zero_add, bin_add, bin_lss, w64, if_true, if_false, Bool.false_eq_true, decide_false, true_and, reduceCtorEq, hltk', hwk.ls.idx hlt, hwk.ls.ld0 hz 1 false (by decide), e0, hxk.len]
          refine ⟨(s + 1, Hk), ⟨hsN, ?_⟩, by simp [Has, rd_s], rfl, by simp only; omega⟩
          simp only
          by_cases hf : f s = true
          · have : tb N (nx f x.2 (s + 1)) = tb N (fun t => nx f x.2 s t || x.2.any (fun p => !s.testBit p.toNat && t == s + 2 ^ p.toNat)) := tb_congr (fun t _ => by rw [nx_succ, hf]; simp)
            rw [this]; exact hok
          · have hf' : f s = false := by simpa using hf
            have hk00 := hk0 hf'
            have hxe : x.2 = [] := List.eq_nil_of_length_eq_zero (by omega)
            have : tb N (nx f x.2 (s + 1)) = tb N (fun t => nx f x.2 s t || x.2.any (fun p => !s.testBit p.toNat && t == s + 2 ^ p.toNat)) := tb_congr (fun t _ => by rw [nx_succ, hf', hxe]; simp)
            rw [this]; exact hok
      · have hsN' : ¬ ((s : Int) < N) := by omega
        have hsn : s = N := by omega
        subst hsn
        simp (maxSteps := 4000000) -implicitDefEqProofs -dsimp (disch := omega) only [↓AW_ops, ↓AW_seq, ↓AW_cond, ↓AW_exit, ↓AW_ret, ↓AOps_nil, ↓AOps_pu, on_some, condB_f, ↓then_normal, ↓then_exit, ↓inBlock_normal, ↓inBlock_exit, ↓Fin_ret, pval, rd_S, rd_C, put_S, resV, resL, eq_self, mk, List.foldl_cons, List.foldl_nil, List.replicate_succ, List.replicate_zero, List.set_cons_zero, List.set_cons_succ, List.getElem?_cons_zero, List.getElem?_cons_succ, Option.getD_some, List.length_cons, List.length_nil, Nat.reduceAdd, Nat.reduceEqDiff, Nat.zero_add, bin_add, bin_lss, w64, if_true, if_false, decide_false, true_and, reduceCtorEq, hsN', hlc]
        refine ⟨(i + 1, vn, Bh.length, Hs), ⟨hlt, ?_⟩, by simp [Has, rd_s], rfl, by simp only; omega⟩
        simp only
        have : tb s (cF (lists ws) wo (i + 1)) = tb s (nx f x.2 s) := tb_congr (fun t ht => by rw [cF, if_neg hwo, nx_end f x.2 ht, hlx, hfi])
        rw [this]
        exact OL_base (hc.pre.trans pB) ho
  · have hlt' : ¬ ((i : Int) < ws.length) := by omega
    have hii : i = ws.length := by omega
    subst hii
    simp (maxSteps := 4000000) -implicitDefEqProofs -dsimp (disch := omega) only [↓AW_ops, ↓AW_seq, ↓AW_cond, ↓AW_exit, ↓AW_ret, ↓AOps_nil, ↓AOps_pu, on_some, condB_f, ↓then_normal, ↓then_exit, ↓inBlock_exit, ↓Fin_ret, pval, rd_S, put_S, resV, resL, chkd, isAdr, bgot, cells_agg, partA, eq_self, mk, List.foldl_cons, List.foldl_nil, List.replicate_succ, List.replicate_zero, List.set_cons_zero, List.set_cons_succ, List.getElem?_cons_zero, List.getElem?_cons_succ, List.drop_zero, List.drop_succ_cons, List.take_succ_cons, List.take_nil, Option.getD_some, List.length_cons, List.length_nil, Nat.reduceAdd, Nat.reduceLeDiff, Nat.zero_add, bin_lss, if_true, if_false, Bool.false_eq_true, decide_false, hlt', hwH.ls.len]
    have := OL_gcS hc flat_eb
    rwa [tb_len] at this

end Go.Proofs.Ytlmbobbefgcolaa
