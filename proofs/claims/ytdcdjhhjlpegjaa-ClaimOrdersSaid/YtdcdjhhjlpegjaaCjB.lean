/- What the law's proof rests on, part 4: for all that is said in each line. No conditions. -/
import Derived.Test.YtdcdjhhjlpegjaaCjA
namespace Go.Proofs.Ytdcdjhhjlpegjaa
open Go Go.Eng
theorem OL_gcS {α : Type} {es : Nat} {e : α → List AV} {A H : AHeap} {n : Nat} {v : AV} {xs : List α} (h : OL es e A H n v xs) (hf : ∀ x, ∀ y ∈ e x, flat y = true) : GC A v H (.sl es A.length 0 xs.length false) (A ++ [.cells true (xs.flatMap e)]) := by
  obtain ⟨he, h1, h2, h3, full, rfl⟩ := h
  have hfl : ∀ y ∈ xs.flatMap e, flat y = true := fun y hy => by
    obtain ⟨x, _, hx⟩ := List.mem_flatMap.1 hy
    exact hf x y hx
  refine gc_weak (fun ρ c => VR.unfull) ?_
  have hk := Keep.add (keep_old h1) (n := n) (o := .cells true (xs.flatMap e)) h2 (by simp; omega) h3
  simp only [renO, ren_flats _ 3 _ hfl] at hk
  exact gc_keep hk (by simp [ren])
theorem c_CloneI {xs : List Int} {v : AV} {A : AHeap} (hx : L1 A v xs) (h0 : 0 < xs.length) (hl : xs.length ≤ 1000000) :
    ACalls Try.prog 103 [v] A (.sl 1 A.length 0 xs.length false) (A ++ [.cells true (xs.flatMap e1)]) := by
  refine acalls hmix Try.func103 (by kernel_rfl) t103 1 rfl (by decide) ?_
  have hn := Ls_nn hx h0
  obtain ⟨v', n, H2, happ, ho⟩ := app_new hx (by simp [lim]; omega)
  rcases hx.inv with ⟨rfl, _⟩ | ⟨n', off, full, rw, l, rfl, _⟩
  · exact absurd rfl hn
  · dsimp only [m103]
    simp (maxSteps := 4000000) -implicitDefEqProofs -dsimp (disch := omega) only [↓AW_skip, ↓AW_ops, ↓AW_seq, ↓AW_cond, ↓AW_ret, ↓AOps_nil, ↓AOps_pu, ↓AOps_ha, on_some, extK_false, extK_app, condB_f, ↓then_normal, ↓Fin_ret, pval, hval_blds, hval_app, rd_S, rd_C, put_S, resV, resL, fillA, repl, List.replicate_succ, List.replicate_zero, List.set_cons_zero, List.set_cons_succ, List.getElem?_cons_zero, List.getElem?_cons_succ, Option.getD_some, map_n, Nat.reduceSub, List.cons_append, List.nil_append, List.replicate_zero, repl, happ]
    exact OL_gcS ho flat_e1
theorem drop_sum {ss : List Int} {i : Nat} {c : Int} (h : ss[i]? = some c) : (ss.drop i).sum = c + (ss.drop (i + 1)).sum := by
  rw [drop_at h, List.sum_cons]
theorem lev_at {ss : List Int} {i : Nat} {c left : Int} (h : ss[i]? = some c) : lev (ss.drop i) left = if left ≤ c * ((ss.length : Int) - i) then (left : Rat) / (((ss.length : Int) - i : Int) : Rat) else lev (ss.drop (i + 1)) (left - c) := by
  have hi := (List.getElem?_eq_some_iff.1 h).1
  rw [drop_at h, lev]
  have : ((ss.drop (i + 1)).length : Int) + 1 = (ss.length : Int) - i := by rw [List.length_drop]; omega
  rw [this]
section
variable {cs : List Int} {v : AV} {A : AHeap} {e : Int}
theorem s85 (hx : L1 A v cs) (hc : CE cs e) : ACalls Try.prog 85 [v, I e] A (R (lv cs e)) A := by
  refine acalls hmix Try.func85 (by kernel_rfl) t85 2 rfl (by decide) ?_
  have hl1 := hc.ok.l1
  have hl8 := hc.ok.l8
  have hs := hc.ok.sum
  have he0 := hc.e0
  have he1 := hc.e1
  dsimp only [m85]
  simp (maxSteps := 4000000) -implicitDefEqProofs -dsimp (disch := omega) only [↓AW_ops, ↓AW_seq, ↓AOps_nil, ↓AOps_pu, ↓AOps_call, on_some, ↓then_normal, pval, rd_S, rd_C, put_S, cells_agg, List.replicate_succ, List.replicate_zero, List.set_cons_zero, List.set_cons_succ, List.getElem?_cons_zero, List.getElem?_cons_succ, Option.getD_some, map_c, map_n, Nat.reduceSub, List.cons_append, List.nil_append]
  refine CallK.of (c_CloneI hx (by omega) (by omega)) ?_
  have ho := OL.new_mk e1_len A cs false
  have hsort := c_Sort ho (by omega)
  rw [set_new] at hsort
  simp (maxSteps := 4000000) -implicitDefEqProofs -dsimp (disch := omega) only [↓AW_ops, ↓AW_seq, ↓AOps_nil, ↓AOps_pu, ↓AOps_call, on_some, extK_app, ↓then_normal, pval, rd_S, put_S, List.replicate_succ, List.replicate_zero, List.set_cons_zero, List.set_cons_succ, List.getElem?_cons_zero, List.getElem?_cons_succ, Option.getD_some, map_c, map_n, Nat.reduceSub, List.cons_append, List.nil_append]
  refine CallK.of hsort ?_
  have hp := pre_app A [AObj.cells true ((srt cs).flatMap e1)]
  have hsl := srt_len cs
  have hsp := srt_perm cs
  have ho2 := OL.new_mk e1_len A (srt cs) false
  rw [hsl] at ho2
  have hq := ho2.ls
  have hss : (srt cs).sum = cs.sum := perm_isum hsp
  have hsc : ∀ x ∈ srt cs, 0 ≤ x ∧ x ≤ 1000 := fun x hx => hc.ok.c x (hsp.mem_iff.1 hx)
  have hlv : lv cs e = lev (srt cs) e := rfl
  rw [hlv]
  have hsle : ((srt cs).length : Int) = cs.length := by omega
  generalize srt cs = ss at *
  generalize AV.sl 1 A.length 0 cs.length false = w at *
  generalize A ++ [AObj.cells true (ss.flatMap e1)] = A1 at *
  simp (maxSteps := 4000000) -implicitDefEqProofs -dsimp (disch := omega) only [↓AW_ops, ↓AW_seq, ↓AW_block, ↓AOps_nil, ↓AOps_pu, on_some, extK_false, ↓then_normal, pval, rd_S, rd_C, put_S, ↓AW_toLoop, List.replicate_succ, List.replicate_zero, List.set_cons_zero, List.set_cons_succ, List.getElem?_cons_zero, List.getElem?_cons_succ, Option.getD_some, Nat.reduceSub, List.cons_append, List.nil_append, hq.len, hsle]
  refine LoopK.by 41 (fun x : Nat × Int => x.1 < ss.length ∧ (0 ≤ x.2 ∧ x.2 ≤ 8000) ∧ x.2 ≤ (ss.drop x.1).sum ∧ lev ss e = lev (ss.drop x.1) x.2) (fun x => [(0, v), (4, .agg [I 0, I 0]), (5, w), (6, I x.2), (15, w), (16, I cs.length), (17, I x.1)]) (fun _ => A1) (fun x => ss.length - x.1) (0, e) ⟨by simp only; omega, by simp only; omega, by simp only [List.drop_zero]; omega, rfl⟩ rfl (by simp [Has, rd_s]) rfl ?_
  rintro ⟨i, left⟩ ⟨hlt, hle, hls, hle2⟩
  simp only at hlt hle hls hle2
  have hlt' : (i : Int) < cs.length := by omega
  obtain ⟨c, hz⟩ : ∃ z, ss[i]? = some z := ⟨_, List.getElem?_eq_getElem hlt⟩
  have hzc := hsc c (List.mem_of_getElem? hz)
  rw [lev_at hz] at hle2
  rw [drop_sum hz] at hls
  rw [hsle] at hle2
  have m1 := Int.mul_le_mul hzc.2 (show (cs.length : Int) - i ≤ 8 by omega) (by omega) (by omega : (0 : Int) ≤ 1000)
  have m2 := Int.mul_nonneg hzc.1 (show 0 ≤ (cs.length : Int) - i by omega)
  by_cases h1 : left ≤ c * ((cs.length : Int) - i)
  · rw [if_pos h1] at hle2
    simp (maxSteps := 4000000) -implicitDefEqProofs -dsimp (disch := omega) only [↓AW_skip, ↓AW_ops, ↓AW_seq, ↓AW_cond, ↓AW_block, ↓AOps_nil, ↓AOps_pu, ↓AOps_ld, ↓AOps_call, on_some, condB_t, ↓then_normal, pval, lval, rd_S, put_S, partA, eq_self, mk, List.foldl_cons, List.foldl_nil, List.replicate_succ, List.replicate_zero, List.set_cons_zero, List.set_cons_succ, List.getElem?_cons_zero, List.getElem?_cons_succ, List.drop_zero, List.take_succ_cons, List.take_nil, Option.getD_some, map_c, map_n, List.length_cons, List.length_nil, Nat.reduceLeDiff, Nat.zero_add, bin_sub, bin_mul, bin_lss, bin_geq, w64, if_true, if_false, Bool.false_eq_true, decide_true, Go.Eng.e1, hlt', hq.len, hq.idx hlt, hq.ld0 hz 1 false (by decide), hsle, h1]
    refine CallK.of (s61 (a := left) (b := (cs.length : Int) - i) _ ⟨by omega, by omega⟩ (by omega) (by omega)) ?_
    simp (maxSteps := 4000000) -implicitDefEqProofs -dsimp (disch := omega) only [↓AW_ret, ↓AOps_nil, ↓AOps_pu, on_some, extK_same, ↓then_normal, ↓then_ret, ↓inBlock_ret, ↓Fin_ret, pval, rd_S, put_S, resV, resL, chkd, bput, bgot, cells_agg, splice, partA, eq_self, mk, List.foldl_cons, List.foldl_nil, List.replicate_succ, List.replicate_zero, List.set_cons_zero, List.set_cons_succ, List.getElem?_cons_zero, List.getElem?_cons_succ, List.drop_zero, List.drop_succ_cons, List.drop_nil, List.take_zero, List.take_succ_cons, List.take_nil, Option.getD_some, List.length_cons, List.length_nil, Nat.reduceAdd, Nat.reduceLeDiff, Nat.reduceEqDiff, Nat.zero_add, List.nil_append, List.append_nil, if_true, if_false, ne_eq, not_true_eq_false, R]
    refine gc_val hp ?_
    rw [hle2]
    rfl
  · rw [if_neg h1] at hle2
    have hcl : c ≤ left := by
      have h2 : c * ((cs.length : Int) - i) = c + c * ((cs.length : Int) - i - 1) := by rw [Int.mul_sub c ((cs.length : Int) - i) 1, Int.mul_one]; omega
      have := Int.mul_nonneg hzc.1 (show 0 ≤ (cs.length : Int) - i - 1 by omega)
      omega
    have hlt2 : i + 1 < ss.length := by
      refine Nat.lt_of_not_le (fun hge => ?_)
      have h0 : ss.drop (i + 1) = [] := List.drop_of_length_le hge
      rw [h0, List.sum_nil] at hls
      have : (cs.length : Int) - i = 1 := by omega
      rw [this, Int.mul_one] at h1
      omega
    simp (maxSteps := 4000000) -implicitDefEqProofs -dsimp (disch := omega) only [↓AW_skip, ↓AW_ops, ↓AW_seq, ↓AW_cond, ↓AW_block, ↓AOps_nil, ↓AOps_pu, ↓AOps_ld, on_some, condB_t, condB_f, ↓then_normal, ↓inBlock_normal, pval, lval, rd_S, rd_C, put_S, partA, eq_self, mk, List.foldl_cons, List.foldl_nil, List.replicate_succ, List.replicate_zero, List.set_cons_zero, List.set_cons_succ, List.getElem?_cons_zero, List.getElem?_cons_succ, List.drop_zero, List.take_succ_cons, List.take_nil, Option.getD_some, List.length_cons, List.length_nil, Nat.reduceAdd, Nat.reduceLeDiff, Nat.zero_add, bin_add, bin_sub, bin_mul, bin_lss, bin_geq, w64, if_true, if_false, Bool.false_eq_true, decide_true, decide_false, Go.Eng.e1, true_and, hlt', hq.len, hq.idx hlt, hq.ld0 hz 1 false (by decide), hsle, h1]
    exact ⟨(i + 1, left - c), ⟨hlt2, by simp only; omega, by simp only; omega, hle2⟩, by simp [Has, rd_s], by simp only; omega⟩
theorem capL_len (cs : List Int) (l : Rat) : ((capL cs l).map rp).length = cs.length := by simp [capL]
theorem capL_take {l : Rat} {i : Nat} {c : Int} (h : cs[i]? = some c) : ((capL cs l).map rp).take (i + 1) = ((capL cs l).map rp).take i ++ [rp (mnq c l)] := by
  unfold capL
  rw [List.take_add_one, List.getElem?_map, List.getElem?_map, h]
  rfl
theorem s88 (hx : L1 A v cs) (hok : OK cs) {l : Rat} (hl : SQ l) : ACalls Try.prog 88 [v, R l] A (outV 2 A ((capL cs l).map rp).length) (outH A (((capL cs l).map rp).flatMap e2) ((capL cs l).map rp).length) := by
  refine acalls hmix Try.func88 (by kernel_rfl) t88 2 rfl (by decide) ?_
  have hlen := capL_len cs l
  have hl8 := hok.l8
  have hdp := den_pos l
  have hd := hl.d
  have hn := hl.num
  dsimp only [m88]
  simp (maxSteps := 4000000) -implicitDefEqProofs -dsimp (disch := omega) only [↓AW_ops, ↓AW_seq, ↓AW_block, ↓AOps_nil, ↓AOps_pu, on_some, ↓then_normal, pval, rd_S, rd_C, put_S, ↓AW_toLoop, AV.cells?, List.replicate_succ, List.replicate_zero, List.set_cons_zero, List.set_cons_succ, List.getElem?_cons_zero, List.getElem?_cons_succ, Option.getD_some, Nat.reduceSub, List.cons_append, List.nil_append, hx.len]
  refine LoopK.by 32 (fun x : Nat × AV × AHeap => x.1 ≤ cs.length ∧ AccL 2 e2 A x.2.2 x.2.1 (((capL cs l).map rp).take x.1)) (fun x => [(3, .agg [I l.num, I (l.den : Int)]), (5, x.2.1), (8, v), (9, I cs.length), (10, I x.1)]) (fun x => x.2.2) (fun x => cs.length - x.1) (0, .nilS, A) ⟨by simp only; omega, AccL.nil (List.prefix_refl _)⟩ rfl (by simp [Has, rd_s]) rfl ?_
  rintro ⟨i, w, A1⟩ ⟨hi, hu⟩
  simp only at hi hu
  have hx1 := hx.mono hu.pre
  by_cases hlt : i < cs.length
  · obtain ⟨z, hz⟩ : ∃ z, cs[i]? = some z := ⟨_, List.getElem?_eq_getElem hlt⟩
    have hlt' : (i : Int) < cs.length := by omega
    have hzc := hok.c z (List.mem_of_getElem? hz)
    have m1 := Int.mul_le_mul hzc.2 hd (by omega) (by omega : (0 : Int) ≤ 1000)
    have m2 := Int.mul_nonneg hzc.1 (show 0 ≤ (l.den : Int) by omega)
    obtain ⟨u3, A3, happ, hu3⟩ := hu.push e2_len (rp (mnq z l)) (by rw [List.length_take]; simp [lim]; omega)
    rw [← capL_take hz] at hu3
    simp only [e2_rp] at happ
    by_cases h1 : z * (l.den : Int) < l.num
    · have hm : mnq z l = (z : Rat) := mnq_c (Rat.le_of_lt (mnq_iff.1 h1))
      rw [hm] at happ
      have hz1 : ((z : Int) : Rat) / ((1 : Int) : Rat) = (z : Rat) := by
        have := div_mul_same (a := (z : Rat)) (n := 1) (by omega)
        rw [int1, Rat.one_mul] at this
        exact this
      simp (maxSteps := 4000000) -implicitDefEqProofs -dsimp (disch := omega) only [↓AW_skip, ↓AW_ops, ↓AW_seq, ↓AW_cond, ↓AW_block, ↓AOps_nil, ↓AOps_pu, ↓AOps_ld, ↓AOps_call, on_some, condB_t, ↓then_normal, pval, lval, rd_S, rd_C, put_S, chkd, isAdr, bgot, AV.cells?, partA, eq_self, mk, List.foldl_cons, List.foldl_nil, List.replicate_succ, List.replicate_zero, List.set_cons_zero, List.set_cons_succ, List.getElem?_cons_zero, List.getElem?_cons_succ, List.drop_zero, List.drop_succ_cons, List.take_zero, List.take_succ_cons, List.take_nil, Option.getD_some, map_c, map_n, List.length_cons, List.length_nil, Nat.reduceAdd, Nat.reduceLeDiff, Nat.zero_add, bin_mul, bin_lss, w64, if_true, if_false, Bool.false_eq_true, decide_true, Go.Eng.e1, hlt', hx1.idx hlt, hx1.ld0 hz 1 false (by decide), h1]
      refine CallK.of (s61 (a := z) (b := 1) _ ⟨by omega, by omega⟩ (by omega) (by omega)) ?_
      rw [hz1]
      simp (maxSteps := 4000000) -implicitDefEqProofs -dsimp (disch := omega) only [↓AW_ops, ↓AOps_nil, ↓AOps_pu, ↓AOps_ha, on_some, extK_false, extK_app, extK_same, ↓then_normal, ↓inBlock_normal, pval, hval, rd_S, rd_C, put_S, AV.cells?, splice, fillA, repl, eq_self, mk, List.foldl_cons, List.foldl_nil, List.replicate_succ, List.replicate_zero, List.set_cons_zero, List.set_cons_succ, List.getElem?_cons_zero, List.getElem?_cons_succ, List.drop_succ_cons, List.drop_nil, List.take_zero, Option.getD_some, map_c, map_n, List.length_cons, List.length_nil, Nat.reduceAdd, Nat.reduceLeDiff, Nat.zero_add, List.nil_append, List.append_nil, bin_add, w64, if_true, true_and, and_true, R, happ]
      exact ⟨(i + 1, u3, A3), ⟨hlt, hu3⟩, by simp [Has, rd_s], rfl, by simp only; omega⟩
    · have hm : mnq z l = l := mnq_l (Rat.not_lt.1 (fun h => h1 (mnq_iff.2 h)))
      rw [hm] at happ
      simp (maxSteps := 4000000) -implicitDefEqProofs -dsimp (disch := omega) only [↓AW_skip, ↓AW_ops, ↓AW_seq, ↓AW_cond, ↓AW_block, ↓AOps_nil, ↓AOps_pu, ↓AOps_ld, ↓AOps_ha, on_some, extK_false, extK_app, condB_t, condB_f, ↓then_normal, ↓inBlock_normal, pval, lval, hval, rd_S, rd_C, put_S, chkd, isAdr, bgot, AV.cells?, splice, partA, fillA, repl, eq_self, mk, List.foldl_cons, List.foldl_nil, List.replicate_succ, List.replicate_zero, List.set_cons_zero, List.set_cons_succ, List.getElem?_cons_zero, List.getElem?_cons_succ, List.drop_zero, List.drop_succ_cons, List.drop_nil, List.take_zero, List.take_succ_cons, List.take_nil, Option.getD_some, map_c, map_n, List.length_cons, List.length_nil, Nat.reduceAdd, Nat.reduceLeDiff, Nat.reduceEqDiff, Nat.zero_add, List.nil_append, List.append_nil, bin_add, bin_mul, bin_lss, w64, if_true, if_false, Bool.false_eq_true, decide_true, decide_false, Go.Eng.e1, true_and, and_true, hlt', hx1.idx hlt, hx1.ld0 hz 1 false (by decide), h1, happ]
      exact ⟨(i + 1, u3, A3), ⟨hlt, hu3⟩, by simp [Has, rd_s], rfl, by simp only; omega⟩
  · have hlt' : ¬ ((i : Int) < cs.length) := by omega
    simp (maxSteps := 4000000) -implicitDefEqProofs -dsimp (disch := omega) only [↓AW_ops, ↓AW_seq, ↓AW_cond, ↓AW_exit, ↓AW_ret, ↓AOps_nil, ↓AOps_pu, on_some, condB_f, ↓then_normal, ↓then_exit, ↓inBlock_exit, ↓Fin_ret, pval, rd_S, put_S, resV, resL, eq_self, mk, List.foldl_cons, List.foldl_nil, List.replicate_succ, List.replicate_zero, List.set_cons_zero, List.set_cons_succ, List.getElem?_cons_zero, List.getElem?_cons_succ, Option.getD_some, bin_lss, if_true, decide_false, hlt']
    rw [List.take_of_length_le (by omega)] at hu
    exact hu.gc flat_e2
/-- Equal awards. -/
def aw (cs : List Int) (e : Int) : List Rat := capL cs (lv cs e)
/-- Equal losses. -/
def lo (cs : List Int) (e : Int) : List Rat := lsL cs ((aw cs (cs.sum - e)).map rp)
def hq (q : Rat) : Rat := (q.num : Rat) / ((2 * (q.den : Int) : Int) : Rat)
def hqc (c : Int) (q : Rat) : Rat := ((q.num + c * (q.den : Int) : Int) : Rat) / ((2 * (q.den : Int) : Int) : Rat)
/-- The awards by the court. -/
def crt (cs : List Int) (e : Int) : List Rat := if 2 * e ≤ cs.sum then (aw cs (2 * e)).map hq else (cs.zip (lo cs (2 * e - cs.sum))).map (fun z => hqc z.1 z.2)
theorem aw_len (cs : List Int) (e : Int) : (aw cs e).length = cs.length := by simp [aw, capL]
theorem lo_len (cs : List Int) (e : Int) : (lo cs e).length = cs.length := by simp [lo, lsL, aw, capL]
theorem crt_len (cs : List Int) (e : Int) : (crt cs e).length = cs.length := by
  unfold crt
  split
  · simp [aw_len]
  · simp [lo_len]
theorem aw_sq (hc : CE cs e) : ∀ q ∈ aw cs e, SQ q := by
  intro q hq
  obtain ⟨c, hcm, rfl⟩ := List.mem_map.1 hq
  exact SQ.mnq (hc.ok.c c hcm) (lv_sq hc)
theorem CE.sub (hc : CE cs e) : CE cs (cs.sum - e) := ⟨hc.ok, by have := hc.e1; omega, by have := hc.e0; omega⟩
theorem lsq_eq (c : Int) (q : Rat) : lsq c (rp q) = (c : Rat) - q := by
  unfold lsq rp
  simp only
  have hdp := den_pos q
  have hne := cast_pos hdp
  have e := R_self q
  have hq : q * ((q.den : Int) : Rat) = ((q.num : Int) : Rat) := by
    conv => lhs; lhs; rw [e]
    exact Rat.div_mul_cancel (Ne.symm (Rat.ne_of_lt hne))
  have h1 : ((c * (q.den : Int) - q.num : Int) : Rat) = ((c : Rat) - q) * ((q.den : Int) : Rat) := by
    rw [Rat.intCast_sub, Rat.intCast_mul, ← hq]
    grind
  rw [h1, Rat.div_def, Rat.mul_assoc, Rat.mul_inv_cancel _ (Ne.symm (Rat.ne_of_lt hne)), Rat.mul_one]
theorem lo_eq (cs : List Int) (e : Int) : lo cs e = cs.map (fun c : Int => (c : Rat) - mnq c (lv cs (cs.sum - e))) := by
  unfold lo lsL aw capL
  rw [List.map_map, zip_self, List.map_map]
  refine List.map_congr_left (fun c _ => ?_)
  exact lsq_eq _ _
theorem SQ.sub {c : Int} {q : Rat} (hc : 0 ≤ c ∧ c ≤ 1000) (hq : SQ q) (h : q ≤ (c : Rat)) : SQ ((c : Rat) - q) := by
  have h1 : (c : Rat) ≤ ((1000 : Int) : Rat) := Rat.intCast_le_intCast.2 hc.2
  have h0 := hq.q0
  refine ⟨by grind, by grind, ?_⟩
  have hd : (((c : Rat) - q).den : Int) ∣ (q.den : Int) := by
    rw [← lsq_eq c q]
    exact div_den (den_pos q)
  have := Int.le_of_dvd (den_pos q) hd
  have := hq.d
  omega
theorem lo_sq (hc : CE cs e) : ∀ q ∈ lo cs e, SQ q := by
  intro q hq
  rw [lo_eq] at hq
  obtain ⟨c, hcm, rfl⟩ := List.mem_map.1 hq
  exact SQ.sub (hc.ok.c c hcm) (SQ.mnq (hc.ok.c c hcm) (lv_sq hc.sub)) (mnq_le _ _).2
theorem s87 (hx : L1 A v cs) (hc : CE cs e) : ACalls Try.prog 87 [v, I e] A (outV 2 A ((aw cs e).map rp).length) (outH A (((aw cs e).map rp).flatMap e2) ((aw cs e).map rp).length) := by
  refine acalls hmix Try.func87 (by kernel_rfl) t87 2 rfl (by decide) ?_
  dsimp only [m87]
  simp (maxSteps := 4000000) -implicitDefEqProofs -dsimp (disch := omega) only [↓AW_ops, ↓AW_seq, ↓AOps_nil, ↓AOps_pu, ↓AOps_call, on_some, ↓then_normal, pval, rd_S, rd_C, put_S, List.replicate_succ, List.replicate_zero, List.set_cons_zero, List.set_cons_succ, List.getElem?_cons_zero, List.getElem?_cons_succ, Option.getD_some, map_c, map_n, Nat.reduceSub, List.cons_append, List.nil_append]
  refine CallK.of (s85 hx hc) ?_
  simp (maxSteps := 4000000) -implicitDefEqProofs -dsimp (disch := omega) only [↓AOps_call, extK_same, rd_S, put_S, List.replicate_succ, List.replicate_zero, List.set_cons_zero, List.set_cons_succ, List.getElem?_cons_zero, List.getElem?_cons_succ, Option.getD_some, map_c, map_n, Nat.reduceSub, List.cons_append, List.nil_append, R]
  refine CallK.of (s88 hx hc.ok (lv_sq hc)) ?_
  simp (maxSteps := 4000000) -implicitDefEqProofs -dsimp (disch := omega) only [↓AW_ret, ↓AOps_nil, ↓AOps_pu, on_some, extK_false, ↓then_normal, ↓Fin_ret, pval, rd_S, put_S, resV, resL, List.replicate_succ, List.replicate_zero, List.set_cons_zero, List.set_cons_succ, List.getElem?_cons_zero, List.getElem?_cons_succ, Option.getD_some, Nat.reduceSub, List.cons_append, List.nil_append]
  exact gc_all
theorem s89 (hx : L1 A v cs) (hc : CE cs e) {n : Nat} (hn : ldA 1 false (.ptr n 0) A = some (.fn 87 [])) : ACalls Try.prog 89 [v, I e, .ptr n 0] A (outV 2 A ((lo cs e).map rp).length) (outH A (((lo cs e).map rp).flatMap e2) ((lo cs e).map rp).length) := by
  refine acalls hmix Try.func89 (by kernel_rfl) t89 3 rfl (by decide) ?_
  have hs := hc.ok.sum
  have he0 := hc.e0
  have he1 := hc.e1
  have hl8 := hc.ok.l8
  dsimp only [m89]
  simp (maxSteps := 4000000) -implicitDefEqProofs -dsimp (disch := omega) only [↓AW_ops, ↓AW_seq, ↓AOps_nil, ↓AOps_pu, ↓AOps_ld, ↓AOps_call, on_some, ↓then_normal, pval, lval, rd_S, rd_C, put_S, List.replicate_succ, List.replicate_zero, List.set_cons_zero, List.set_cons_succ, List.getElem?_cons_zero, List.getElem?_cons_succ, Option.getD_some, map_c, map_n, Nat.reduceSub, List.cons_append, List.nil_append, hn]
  refine CallK.of (c_total hx (by omega) hc.ok.bd) ?_
  simp (maxSteps := 4000000) -implicitDefEqProofs -dsimp (disch := omega) only [↓AOps_pu, ↓AOps_callv, on_some, extK_same, CallF_fn, pval, rd_S, put_S, List.replicate_succ, List.replicate_zero, List.set_cons_zero, List.set_cons_succ, List.getElem?_cons_zero, List.getElem?_cons_succ, Option.getD_some, map_c, map_n, Nat.reduceSub, List.cons_append, List.nil_append, List.append_nil, bin_sub, w64]
  refine CallK.of (s87 hx hc.sub) ?_
  have hp1 := pre_out A (((aw cs (cs.sum - e)).map rp).flatMap e2) ((aw cs (cs.sum - e)).map rp).length
  have hq1 := Ls_out A e2_len ((aw cs (cs.sum - e)).map rp)
  generalize outV 2 A ((aw cs (cs.sum - e)).map rp).length = w at *
  generalize outH A (((aw cs (cs.sum - e)).map rp).flatMap e2) ((aw cs (cs.sum - e)).map rp).length = A1 at *
  simp (maxSteps := 4000000) -implicitDefEqProofs -dsimp (disch := omega) only [↓AOps_call, extK_false, rd_S, put_S, List.replicate_succ, List.replicate_zero, List.set_cons_zero, List.set_cons_succ, List.getElem?_cons_zero, List.getElem?_cons_succ, Option.getD_some, map_c, map_n, Nat.reduceSub, List.cons_append, List.nil_append]
  refine CallK.of (s75 (hx.mono hp1) hq1 hc.ok (by simp [aw_len]) (fun r hr => ?_)) ?_
  · obtain ⟨q, hq, rfl⟩ := List.mem_map.1 hr
    exact (aw_sq hc.sub q hq).bd
  · have hlo : lsL cs ((aw cs (cs.sum - e)).map rp) = lo cs e := rfl
    rw [hlo]
    simp (maxSteps := 4000000) -implicitDefEqProofs -dsimp (disch := omega) only [↓AW_ret, ↓AOps_nil, ↓AOps_pu, on_some, extK_false, ↓then_normal, ↓Fin_ret, pval, rd_S, put_S, resV, resL, List.replicate_succ, List.replicate_zero, List.set_cons_zero, List.set_cons_succ, List.getElem?_cons_zero, List.getElem?_cons_succ, Option.getD_some, Nat.reduceSub, List.cons_append, List.nil_append]
    exact (AccL_out hp1 e2_len _).gc flat_e2
theorem map_take {α β : Type} (f : α → β) {xs : List α} {i : Nat} {x : α} (h : xs[i]? = some x) : (xs.map f).take (i + 1) = (xs.map f).take i ++ [f x] := by
  rw [List.take_add_one, List.getElem?_map, h]
  rfl
theorem SQ.hq_w {q : Rat} (h : SQ q) : (0 ≤ q.num ∧ q.num ≤ 1000000) ∧ 0 < 2 * (q.den : Int) ∧ 2 * (q.den : Int) ≤ 2000 := by
  have h1 := h.num
  have h2 := den_pos q
  have h3 := h.d
  exact ⟨h1, by omega, by omega⟩
set_option maxHeartbeats 1000000 in
theorem s91 (hx : L1 A v cs) (hc : CE cs e) {n m : Nat} (hn : ldA 1 false (.ptr n 0) A = some (.fn 87 [])) (hm : ldA 1 false (.ptr m 0) A = some (.fn 89 [.ptr n 0])) :
    ACalls Try.prog 91 [v, I e, .ptr n 0, .ptr m 0] A (outV 2 A ((crt cs e).map rp).length) (outH A (((crt cs e).map rp).flatMap e2) ((crt cs e).map rp).length) := by
  refine acalls hmix Try.func91 (by kernel_rfl) t91 4 rfl (by decide) ?_
  have hs := hc.ok.sum
  have he0 := hc.e0
  have he1 := hc.e1
  have hl8 := hc.ok.l8
  dsimp only [m91]
  simp (maxSteps := 4000000) -implicitDefEqProofs -dsimp (disch := omega) only [↓AW_ops, ↓AW_seq, ↓AOps_nil, ↓AOps_pu, ↓AOps_call, on_some, ↓then_normal, pval, rd_S, rd_C, put_S, List.replicate_succ, List.replicate_zero, List.set_cons_zero, List.set_cons_succ, List.getElem?_cons_zero, List.getElem?_cons_succ, Option.getD_some, map_c, map_n, Nat.reduceSub, List.cons_append, List.nil_append]
  refine CallK.of (c_total hx (by omega) hc.ok.bd) ?_
  by_cases h1 : 2 * e ≤ cs.sum
  · have hE : crt cs e = (aw cs (2 * e)).map hq := if_pos h1
    rw [hE]
    have hc2 : CE cs (2 * e) := ⟨hc.ok, by omega, h1⟩
    have hsq := aw_sq hc2
    have hal := aw_len cs (2 * e)
    simp (maxSteps := 4000000) -implicitDefEqProofs -dsimp (disch := omega) only [↓AW_ops, ↓AW_seq, ↓AW_cond, ↓AOps_nil, ↓AOps_pu, ↓AOps_ld, ↓AOps_callv, on_some, extK_same, CallF_fn, condB_t, ↓then_normal, pval, lval, rd_S, rd_C, put_S, List.replicate_succ, List.replicate_zero, List.set_cons_zero, List.set_cons_succ, List.getElem?_cons_zero, List.getElem?_cons_succ, Option.getD_some, map_c, map_n, Nat.reduceSub, List.cons_append, List.nil_append, List.append_nil, bin_mul, bin_leq, w64, decide_true, h1, hn]
    refine CallK.of (s87 hx hc2) ?_
    generalize aw cs (2 * e) = qs at *
    have hp1 := pre_out A ((qs.map rp).flatMap e2) (qs.map rp).length
    have hq1 := Ls_out A e2_len (qs.map rp)
    generalize outV 2 A (qs.map rp).length = w at *
    generalize outH A ((qs.map rp).flatMap e2) (qs.map rp).length = A1 at *
    have hlr : (qs.map rp).length = qs.length := by simp
    have hle : ((qs.map hq).map rp).length = qs.length := by simp
    simp (maxSteps := 4000000) -implicitDefEqProofs -dsimp (disch := omega) only [↓AW_block, ↓AOps_nil, ↓AOps_pu, on_some, extK_false, ↓then_normal, pval, rd_S, rd_C, put_S, ↓AW_toLoop, List.replicate_succ, List.replicate_zero, List.set_cons_zero, List.set_cons_succ, List.getElem?_cons_zero, List.getElem?_cons_succ, Option.getD_some, Nat.reduceSub, List.cons_append, List.nil_append, hq1.len, hlr]
    refine LoopK.by 72 (fun x : Nat × AV × AHeap => x.1 ≤ qs.length ∧ AccL 2 e2 A1 x.2.2 x.2.1 (((qs.map hq).map rp).take x.1)) (fun x => [(8, x.2.1), (23, w), (24, I qs.length), (25, I x.1)]) (fun x => x.2.2) (fun x => qs.length - x.1) (0, .nilS, A1) ⟨by simp only; omega, AccL.nil (List.prefix_refl _)⟩ rfl (by simp [Has, rd_s]) rfl ?_
    rintro ⟨i, u, A2⟩ ⟨hi, hu⟩
    simp only at hi hu
    have hq2 := hq1.mono hu.pre
    by_cases hlt : i < qs.length
    · obtain ⟨q, hz⟩ : ∃ z, qs[i]? = some z := ⟨_, List.getElem?_eq_getElem hlt⟩
      have hlt' : (i : Int) < qs.length := by omega
      have hz' : (qs.map rp)[i]? = some (rp q) := by rw [List.getElem?_map, hz]; rfl
      have hlt2 : i < (qs.map rp).length := by omega
      obtain ⟨b1, b2, b3⟩ := (hsq q (List.mem_of_getElem? hz)).hq_w
      obtain ⟨u3, A3, happ, hu3⟩ := hu.push e2_len (rp (hq q)) (by rw [List.length_take]; simp [lim]; omega)
      have hz2 : (qs.map hq)[i]? = some (hq q) := by rw [List.getElem?_map, hz]; rfl
      rw [← map_take rp hz2] at hu3
      simp only [e2_rp] at happ
      simp (maxSteps := 4000000) -implicitDefEqProofs -dsimp (disch := omega) only [↓AW_skip, ↓AW_ops, ↓AW_seq, ↓AW_cond, ↓AW_block, ↓AOps_nil, ↓AOps_pu, ↓AOps_ld, ↓AOps_call, on_some, condB_t, ↓then_normal, pval, lval, rd_S, rd_C, put_S, chkd, isAdr, bput, bgot, AV.cells?, splice, partA, eq_self, mk, List.foldl_cons, List.foldl_nil, List.replicate_succ, List.replicate_zero, List.set_cons_zero, List.set_cons_succ, List.getElem?_cons_zero, List.getElem?_cons_succ, List.drop_zero, List.drop_succ_cons, List.drop_nil, List.take_zero, List.take_succ_cons, List.take_nil, Option.getD_some, map_c, map_n, List.length_cons, List.length_nil, Nat.reduceAdd, Nat.reduceLeDiff, Nat.reduceEqDiff, Nat.zero_add, List.nil_append, List.append_nil, bin_mul, bin_lss, w64, if_true, if_false, Bool.false_eq_true, decide_true, Go.Eng.e2, ne_eq, not_true_eq_false, hlt', hq2.idx hlt2, hq2.ld0 hz' 2 true (by decide), rp]
      refine CallK.of (s61 (a := q.num) (b := 2 * (q.den : Int)) _ ⟨by omega, by omega⟩ (by omega) (by omega)) ?_
      have hls : ((q.num : Rat) / ((2 * (q.den : Int) : Int) : Rat)) = hq q := rfl
      simp (maxSteps := 4000000) -implicitDefEqProofs -dsimp (disch := omega) only [↓AW_ops, ↓AOps_nil, ↓AOps_pu, ↓AOps_ha, on_some, extK_false, extK_app, extK_same, ↓then_normal, ↓inBlock_normal, pval, hval, rd_S, rd_C, put_S, AV.cells?, splice, fillA, repl, eq_self, mk, List.foldl_cons, List.foldl_nil, List.replicate_succ, List.replicate_zero, List.set_cons_zero, List.set_cons_succ, List.getElem?_cons_zero, List.getElem?_cons_succ, List.drop_succ_cons, List.drop_nil, List.take_zero, Option.getD_some, map_c, map_n, List.length_cons, List.length_nil, Nat.reduceAdd, Nat.reduceLeDiff, Nat.zero_add, List.nil_append, List.append_nil, bin_add, w64, if_true, true_and, and_true, hls, R, happ]
      exact ⟨(i + 1, u3, A3), ⟨hlt, hu3⟩, by simp [Has, rd_s], rfl, by simp only; omega⟩
    · have hlt' : ¬ ((i : Int) < qs.length) := by omega
      simp (maxSteps := 4000000) -implicitDefEqProofs -dsimp (disch := omega) only [↓AW_ops, ↓AW_seq, ↓AW_cond, ↓AW_exit, ↓AW_ret, ↓AOps_nil, ↓AOps_pu, on_some, condB_f, ↓then_normal, ↓then_exit, ↓then_ret, ↓inBlock_exit, ↓Fin_ret, pval, rd_S, put_S, resV, resL, eq_self, mk, List.foldl_cons, List.foldl_nil, List.replicate_succ, List.replicate_zero, List.set_cons_zero, List.set_cons_succ, List.getElem?_cons_zero, List.getElem?_cons_succ, Option.getD_some, bin_lss, if_true, decide_false, hlt']
      rw [List.take_of_length_le (by omega)] at hu
      exact (AccL_base hp1 hu).gc flat_e2
  · have hE : crt cs e = (cs.zip (lo cs (2 * e - cs.sum))).map (fun z => hqc z.1 z.2) := if_neg h1
    rw [hE]
    have hc2 : CE cs (2 * e - cs.sum) := ⟨hc.ok, by omega, by omega⟩
    have hsq := lo_sq hc2
    have hal := lo_len cs (2 * e - cs.sum)
    simp (maxSteps := 4000000) -implicitDefEqProofs -dsimp (disch := omega) only [↓AW_skip, ↓AW_ops, ↓AW_seq, ↓AW_cond, ↓AOps_nil, ↓AOps_pu, ↓AOps_ld, ↓AOps_callv, on_some, extK_same, CallF_fn, condB_f, ↓then_normal, pval, lval, rd_S, rd_C, put_S, List.replicate_succ, List.replicate_zero, List.set_cons_zero, List.set_cons_succ, List.getElem?_cons_zero, List.getElem?_cons_succ, Option.getD_some, map_c, map_n, Nat.reduceSub, List.cons_append, List.nil_append, bin_sub, bin_mul, bin_leq, w64, decide_false, h1, hm]
    refine CallK.of (s89 hx hc2 hn) ?_
    generalize lo cs (2 * e - cs.sum) = qs at *
    have hp1 := pre_out A ((qs.map rp).flatMap e2) (qs.map rp).length
    have hq1 := Ls_out A e2_len (qs.map rp)
    generalize outV 2 A (qs.map rp).length = w at *
    generalize outH A ((qs.map rp).flatMap e2) (qs.map rp).length = A1 at *
    have hlr : (qs.map rp).length = qs.length := by simp
    have hle : (((cs.zip qs).map (fun z => hqc z.1 z.2)).map rp).length = qs.length := by simp; omega
    simp (maxSteps := 4000000) -implicitDefEqProofs -dsimp (disch := omega) only [↓AW_block, ↓AOps_nil, ↓AOps_pu, on_some, extK_false, ↓then_normal, pval, rd_S, rd_C, put_S, ↓AW_toLoop, List.replicate_succ, List.replicate_zero, List.set_cons_zero, List.set_cons_succ, List.getElem?_cons_zero, List.getElem?_cons_succ, Option.getD_some, Nat.reduceSub, List.cons_append, List.nil_append, hq1.len, hlr]
    refine LoopK.by 72 (fun x : Nat × AV × AHeap => x.1 ≤ qs.length ∧ AccL 2 e2 A1 x.2.2 x.2.1 ((((cs.zip qs).map (fun z => hqc z.1 z.2)).map rp).take x.1)) (fun x => [(0, v), (8, x.2.1), (46, w), (47, I qs.length), (48, I x.1)]) (fun x => x.2.2) (fun x => qs.length - x.1) (0, .nilS, A1) ⟨by simp only; omega, AccL.nil (List.prefix_refl _)⟩ rfl (by simp [Has, rd_s]) rfl ?_
    rintro ⟨i, u, A2⟩ ⟨hi, hu⟩
    simp only at hi hu
    have hq2 := hq1.mono hu.pre
    have hx2 := (hx.mono hp1).mono hu.pre
    by_cases hlt : i < qs.length
    · obtain ⟨q, hz⟩ : ∃ z, qs[i]? = some z := ⟨_, List.getElem?_eq_getElem hlt⟩
      have hlt' : (i : Int) < qs.length := by omega
      have hz' : (qs.map rp)[i]? = some (rp q) := by rw [List.getElem?_map, hz]; rfl
      have hlt2 : i < (qs.map rp).length := by omega
      have hlt3 : i < cs.length := by omega
      obtain ⟨c, hc1⟩ : ∃ c, cs[i]? = some c := ⟨_, List.getElem?_eq_getElem hlt3⟩
      have hcc := hc.ok.c c (List.mem_of_getElem? hc1)
      obtain ⟨b1, b2, b3⟩ := (hsq q (List.mem_of_getElem? hz)).hq_w
      have m1 := Int.mul_le_mul hcc.2 (show (q.den : Int) ≤ 1000 by omega) (by omega) (by omega : (0 : Int) ≤ 1000)
      have m2 := Int.mul_nonneg hcc.1 (show 0 ≤ (q.den : Int) by omega)
      obtain ⟨u3, A3, happ, hu3⟩ := hu.push e2_len (rp (hqc c q)) (by rw [List.length_take]; simp [lim]; omega)
      have hz2 : ((cs.zip qs).map (fun z => hqc z.1 z.2))[i]? = some (hqc c q) := by
        have : (cs.zip qs)[i]? = some (c, q) := by rw [List.getElem?_zip_eq_some]; exact ⟨hc1, hz⟩
        rw [List.getElem?_map, this]; rfl
      rw [← map_take rp hz2] at hu3
      simp only [e2_rp] at happ
      simp (maxSteps := 4000000) -implicitDefEqProofs -dsimp (disch := omega) only [↓AW_skip, ↓AW_ops, ↓AW_seq, ↓AW_cond, ↓AW_block, ↓AOps_nil, ↓AOps_pu, ↓AOps_ld, ↓AOps_call, on_some, condB_t, ↓then_normal, pval, lval, rd_S, rd_C, put_S, chkd, isAdr, bput, bgot, AV.cells?, splice, partA, eq_self, mk, List.foldl_cons, List.foldl_nil, List.replicate_succ, List.replicate_zero, List.set_cons_zero, List.set_cons_succ, List.getElem?_cons_zero, List.getElem?_cons_succ, List.drop_zero, List.drop_succ_cons, List.drop_nil, List.take_zero, List.take_succ_cons, List.take_nil, Option.getD_some, map_c, map_n, List.length_cons, List.length_nil, Nat.reduceAdd, Nat.reduceLeDiff, Nat.reduceEqDiff, Nat.zero_add, List.nil_append, List.append_nil, bin_add, bin_mul, bin_lss, w64, if_true, if_false, Bool.false_eq_true, decide_true, Go.Eng.e1, Go.Eng.e2, ne_eq, not_true_eq_false, hlt', hq2.idx hlt2, hq2.ld0 hz' 2 true (by decide), rp, hx2.idx hlt3, hx2.ld0 hc1 1 false (by decide)]
      refine CallK.of (s61 (a := q.num + c * (q.den : Int)) (b := 2 * (q.den : Int)) _ ⟨by omega, by omega⟩ (by omega) (by omega)) ?_
      have hls : (((q.num + c * (q.den : Int) : Int) : Rat) / ((2 * (q.den : Int) : Int) : Rat)) = hqc c q := rfl
      simp (maxSteps := 4000000) -implicitDefEqProofs -dsimp (disch := omega) only [↓AW_ops, ↓AOps_nil, ↓AOps_pu, ↓AOps_ha, on_some, extK_false, extK_app, extK_same, ↓then_normal, ↓inBlock_normal, pval, hval, rd_S, rd_C, put_S, AV.cells?, splice, fillA, repl, eq_self, mk, List.foldl_cons, List.foldl_nil, List.replicate_succ, List.replicate_zero, List.set_cons_zero, List.set_cons_succ, List.getElem?_cons_zero, List.getElem?_cons_succ, List.drop_succ_cons, List.drop_nil, List.take_zero, Option.getD_some, map_c, map_n, List.length_cons, List.length_nil, Nat.reduceAdd, Nat.reduceLeDiff, Nat.zero_add, List.nil_append, List.append_nil, bin_add, w64, if_true, true_and, and_true, hls, R, happ]
      exact ⟨(i + 1, u3, A3), ⟨hlt, hu3⟩, by simp [Has, rd_s], rfl, by simp only; omega⟩
    · have hlt' : ¬ ((i : Int) < qs.length) := by omega
      simp (maxSteps := 4000000) -implicitDefEqProofs -dsimp (disch := omega) only [↓AW_ops, ↓AW_seq, ↓AW_cond, ↓AW_exit, ↓AW_ret, ↓AOps_nil, ↓AOps_pu, on_some, condB_f, ↓then_normal, ↓then_exit, ↓inBlock_exit, ↓Fin_ret, pval, rd_S, put_S, resV, resL, eq_self, mk, List.foldl_cons, List.foldl_nil, List.replicate_succ, List.replicate_zero, List.set_cons_zero, List.set_cons_succ, List.getElem?_cons_zero, List.getElem?_cons_succ, Option.getD_some, bin_lss, if_true, decide_false, hlt']
      rw [List.take_of_length_le (by omega)] at hu
      exact (AccL_base hp1 hu).gc flat_e2
theorem s55a (hx : L1 A v cs) (hl : cs.length ≤ 1000000) : ACalls Try.prog 55 [I 1, v, I e] A (.tuple [outV 2 A (byO cs e (aw cs e)).length, I (vE cs e)]) (outH A ((byO cs e (aw cs e)).flatMap e2) (byO cs e (aw cs e)).length) := by
  refine acalls hmix Try.func55 (by kernel_rfl) t55 3 rfl (by decide) ?_
  dsimp only [m55]
  simp (maxSteps := 4000000) -implicitDefEqProofs -dsimp (disch := omega) only [↓AW_ops, ↓AW_seq, ↓AOps_nil, ↓AOps_pu, ↓AOps_call, on_some, ↓then_normal, pval, rd_S, rd_C, put_S, List.replicate_succ, List.replicate_zero, List.set_cons_zero, List.set_cons_succ, List.getElem?_cons_zero, List.getElem?_cons_succ, Option.getD_some, map_c, map_n, Nat.reduceSub, List.cons_append, List.nil_append]
  refine CallK.of (s16 hx hl e) ?_
  by_cases h0 : vE cs e = 0
  · have hO : byO cs e (aw cs e) = (aw cs e).map rp := if_pos h0
    have hc := vE_0.1 h0
    rw [hO, h0]
    simp (maxSteps := 4000000) -implicitDefEqProofs -dsimp (disch := omega) only [↓AW_skip, ↓AW_ops, ↓AW_seq, ↓AW_cond, ↓AOps_nil, ↓AOps_pu, ↓AOps_call, on_some, extK_same, condB_f, ↓then_normal, pval, rd_S, rd_C, put_S, eq_self, List.replicate_succ, List.replicate_zero, List.set_cons_zero, List.set_cons_succ, List.getElem?_cons_zero, List.getElem?_cons_succ, Option.getD_some, map_n, Nat.reduceSub, List.cons_append, List.nil_append, bin_neq, decide_false, not_true_eq_false]
    refine CallK.of (s79 A) ?_
    simp (maxSteps := 4000000) -implicitDefEqProofs -dsimp (disch := omega) only [↓AOps_pu, ↓AOps_callv, on_some, extK_false, CallF_fn, pval, rd_S, put_S, partA, eq_self, List.replicate_succ, List.replicate_zero, List.set_cons_zero, List.set_cons_succ, List.getElem?_cons_zero, List.getElem?_cons_succ, List.drop_zero, List.drop_succ_cons, List.take_zero, List.take_succ_cons, List.take_nil, Option.getD_some, map_c, map_n, List.length_cons, List.length_nil, Nat.reduceAdd, Nat.reduceSub, Nat.reduceLeDiff, Nat.reduceMul, Nat.zero_add, List.cons_append, List.nil_append, List.append_nil, if_true, if_false, Bool.false_eq_true, and_true, Int.reduceLT, Int.reduceLE, rulesV, c4, tn1]
    refine CallK.of (s87 (hx.mono (rules_pre A)) hc) ?_
    simp (maxSteps := 4000000) -implicitDefEqProofs -dsimp (disch := omega) only [↓AW_ret, ↓AOps_nil, ↓AOps_pu, on_some, extK_false, ↓then_normal, ↓Fin_ret, pval, rd_S, rd_C, put_S, resV, resL, List.replicate_succ, List.replicate_zero, List.set_cons_zero, List.set_cons_succ, List.getElem?_cons_zero, List.getElem?_cons_succ, Option.getD_some, Nat.reduceSub, List.cons_append, List.nil_append]
    exact (AccL_out (rules_pre A) e2_len _).gc2 flat_e2 (I 0) rfl
  · have hO : byO cs e (aw cs e) = [] := if_neg h0
    rw [hO]
    simp (maxSteps := 4000000) -implicitDefEqProofs -dsimp (disch := omega) only [↓AW_ops, ↓AW_seq, ↓AW_cond, ↓AW_ret, ↓AOps_nil, ↓AOps_pu, on_some, extK_same, condB_t, ↓then_normal, ↓then_ret, ↓Fin_ret, pval, rd_S, rd_C, put_S, resV, resL, List.replicate_succ, List.replicate_zero, List.set_cons_zero, List.set_cons_succ, List.getElem?_cons_zero, List.getElem?_cons_succ, Option.getD_some, List.length_nil, Nat.reduceSub, List.cons_append, List.nil_append, bin_neq, decide_true, not_false_eq_true, h0]
    exact gc_same_all rfl rfl
theorem s55l (hx : L1 A v cs) (hl : cs.length ≤ 1000000) : ACalls Try.prog 55 [I 2, v, I e] A (.tuple [outV 2 A (byO cs e (lo cs e)).length, I (vE cs e)]) (outH A ((byO cs e (lo cs e)).flatMap e2) (byO cs e (lo cs e)).length) := by
  refine acalls hmix Try.func55 (by kernel_rfl) t55 3 rfl (by decide) ?_
  dsimp only [m55]
  simp (maxSteps := 4000000) -implicitDefEqProofs -dsimp (disch := omega) only [↓AW_ops, ↓AW_seq, ↓AOps_nil, ↓AOps_pu, ↓AOps_call, on_some, ↓then_normal, pval, rd_S, rd_C, put_S, List.replicate_succ, List.replicate_zero, List.set_cons_zero, List.set_cons_succ, List.getElem?_cons_zero, List.getElem?_cons_succ, Option.getD_some, map_c, map_n, Nat.reduceSub, List.cons_append, List.nil_append]
  refine CallK.of (s16 hx hl e) ?_
  by_cases h0 : vE cs e = 0
  · have hO : byO cs e (lo cs e) = (lo cs e).map rp := if_pos h0
    have hc := vE_0.1 h0
    rw [hO, h0]
    simp (maxSteps := 4000000) -implicitDefEqProofs -dsimp (disch := omega) only [↓AW_skip, ↓AW_ops, ↓AW_seq, ↓AW_cond, ↓AOps_nil, ↓AOps_pu, ↓AOps_call, on_some, extK_same, condB_f, ↓then_normal, pval, rd_S, rd_C, put_S, eq_self, List.replicate_succ, List.replicate_zero, List.set_cons_zero, List.set_cons_succ, List.getElem?_cons_zero, List.getElem?_cons_succ, Option.getD_some, map_n, Nat.reduceSub, List.cons_append, List.nil_append, bin_neq, decide_false, not_true_eq_false]
    refine CallK.of (s79 A) ?_
    simp (maxSteps := 4000000) -implicitDefEqProofs -dsimp (disch := omega) only [↓AOps_pu, ↓AOps_callv, on_some, extK_false, CallF_fn, pval, rd_S, put_S, partA, eq_self, List.replicate_succ, List.replicate_zero, List.set_cons_zero, List.set_cons_succ, List.getElem?_cons_zero, List.getElem?_cons_succ, List.drop_zero, List.drop_succ_cons, List.take_zero, List.take_succ_cons, List.take_nil, Option.getD_some, map_c, map_n, List.length_cons, List.length_nil, Nat.reduceAdd, Nat.reduceSub, Nat.reduceLeDiff, Nat.reduceMul, Nat.zero_add, List.cons_append, List.nil_append, if_true, if_false, Bool.false_eq_true, and_true, Int.reduceLT, Int.reduceLE, rulesV, c4, tn2]
    refine CallK.of (s89 (hx.mono (rules_pre A)) hc (rules_l1 A)) ?_
    simp (maxSteps := 4000000) -implicitDefEqProofs -dsimp (disch := omega) only [↓AW_ret, ↓AOps_nil, ↓AOps_pu, on_some, extK_false, ↓then_normal, ↓Fin_ret, pval, rd_S, rd_C, put_S, resV, resL, List.replicate_succ, List.replicate_zero, List.set_cons_zero, List.set_cons_succ, List.getElem?_cons_zero, List.getElem?_cons_succ, Option.getD_some, Nat.reduceSub, List.cons_append, List.nil_append]
    exact (AccL_out (rules_pre A) e2_len _).gc2 flat_e2 (I 0) rfl
  · have hO : byO cs e (lo cs e) = [] := if_neg h0
    rw [hO]
    simp (maxSteps := 4000000) -implicitDefEqProofs -dsimp (disch := omega) only [↓AW_ops, ↓AW_seq, ↓AW_cond, ↓AW_ret, ↓AOps_nil, ↓AOps_pu, on_some, extK_same, condB_t, ↓then_normal, ↓then_ret, ↓Fin_ret, pval, rd_S, rd_C, put_S, resV, resL, List.replicate_succ, List.replicate_zero, List.set_cons_zero, List.set_cons_succ, List.getElem?_cons_zero, List.getElem?_cons_succ, Option.getD_some, List.length_nil, Nat.reduceSub, List.cons_append, List.nil_append, bin_neq, decide_true, not_false_eq_true, h0]
    exact gc_same_all rfl rfl
theorem s55c (hx : L1 A v cs) (hl : cs.length ≤ 1000000) : ACalls Try.prog 55 [I 3, v, I e] A (.tuple [outV 2 A (byO cs e (crt cs e)).length, I (vE cs e)]) (outH A ((byO cs e (crt cs e)).flatMap e2) (byO cs e (crt cs e)).length) := by
  refine acalls hmix Try.func55 (by kernel_rfl) t55 3 rfl (by decide) ?_
  dsimp only [m55]
  simp (maxSteps := 4000000) -implicitDefEqProofs -dsimp (disch := omega) only [↓AW_ops, ↓AW_seq, ↓AOps_nil, ↓AOps_pu, ↓AOps_call, on_some, ↓then_normal, pval, rd_S, rd_C, put_S, List.replicate_succ, List.replicate_zero, List.set_cons_zero, List.set_cons_succ, List.getElem?_cons_zero, List.getElem?_cons_succ, Option.getD_some, map_c, map_n, Nat.reduceSub, List.cons_append, List.nil_append]
  refine CallK.of (s16 hx hl e) ?_
  by_cases h0 : vE cs e = 0
  · have hO : byO cs e (crt cs e) = (crt cs e).map rp := if_pos h0
    have hc := vE_0.1 h0
    rw [hO, h0]
    simp (maxSteps := 4000000) -implicitDefEqProofs -dsimp (disch := omega) only [↓AW_skip, ↓AW_ops, ↓AW_seq, ↓AW_cond, ↓AOps_nil, ↓AOps_pu, ↓AOps_call, on_some, extK_same, condB_f, ↓then_normal, pval, rd_S, rd_C, put_S, eq_self, List.replicate_succ, List.replicate_zero, List.set_cons_zero, List.set_cons_succ, List.getElem?_cons_zero, List.getElem?_cons_succ, Option.getD_some, map_n, Nat.reduceSub, List.cons_append, List.nil_append, bin_neq, decide_false, not_true_eq_false]
    refine CallK.of (s79 A) ?_
    simp (maxSteps := 4000000) -implicitDefEqProofs -dsimp (disch := omega) only [↓AOps_pu, ↓AOps_callv, on_some, extK_false, CallF_fn, pval, rd_S, put_S, partA, eq_self, List.replicate_succ, List.replicate_zero, List.set_cons_zero, List.set_cons_succ, List.getElem?_cons_zero, List.getElem?_cons_succ, List.drop_zero, List.drop_succ_cons, List.take_succ_cons, List.take_nil, Option.getD_some, map_c, map_n, List.length_cons, List.length_nil, Nat.reduceAdd, Nat.reduceSub, Nat.reduceLeDiff, Nat.reduceMul, Nat.zero_add, List.cons_append, List.nil_append, if_true, if_false, Bool.false_eq_true, and_true, Int.reduceLT, Int.reduceLE, rulesV, c4, tn3]
    refine CallK.of (s91 (hx.mono (rules_pre A)) hc (rules_l1 A) (rules_l2 A)) ?_
    simp (maxSteps := 4000000) -implicitDefEqProofs -dsimp (disch := omega) only [↓AW_ret, ↓AOps_nil, ↓AOps_pu, on_some, extK_false, ↓then_normal, ↓Fin_ret, pval, rd_S, rd_C, put_S, resV, resL, List.replicate_succ, List.replicate_zero, List.set_cons_zero, List.set_cons_succ, List.getElem?_cons_zero, List.getElem?_cons_succ, Option.getD_some, Nat.reduceSub, List.cons_append, List.nil_append]
    exact (AccL_out (rules_pre A) e2_len _).gc2 flat_e2 (I 0) rfl
  · have hO : byO cs e (crt cs e) = [] := if_neg h0
    rw [hO]
    simp (maxSteps := 4000000) -implicitDefEqProofs -dsimp (disch := omega) only [↓AW_ops, ↓AW_seq, ↓AW_cond, ↓AW_ret, ↓AOps_nil, ↓AOps_pu, on_some, extK_same, condB_t, ↓then_normal, ↓then_ret, ↓Fin_ret, pval, rd_S, rd_C, put_S, resV, resL, List.replicate_succ, List.replicate_zero, List.set_cons_zero, List.set_cons_succ, List.getElem?_cons_zero, List.getElem?_cons_succ, Option.getD_some, List.length_nil, Nat.reduceSub, List.cons_append, List.nil_append, bin_neq, decide_true, not_false_eq_true, h0]
    exact gc_same_all rfl rfl
theorem s19 (hx : L1 A v cs) (hl : cs.length ≤ 1000000) : ACalls Try.prog 19 [v, I e] A (.tuple [outV 2 A (byO cs e (aw cs e)).length, I (vE cs e)]) (outH A ((byO cs e (aw cs e)).flatMap e2) (byO cs e (aw cs e)).length) := by
  refine acalls hmix Try.func19 (by kernel_rfl) t19 2 rfl (by decide) ?_
  dsimp only [m19]
  simp (maxSteps := 4000000) -implicitDefEqProofs -dsimp (disch := omega) only [↓AW_ops, ↓AW_seq, ↓AOps_nil, ↓AOps_pu, ↓AOps_call, on_some, ↓then_normal, pval, rd_S, rd_C, put_S, List.replicate_succ, List.replicate_zero, List.set_cons_zero, List.set_cons_succ, List.getElem?_cons_zero, List.getElem?_cons_succ, Option.getD_some, map_c, map_n, Nat.reduceSub, List.cons_append, List.nil_append]
  refine CallK.of (s55a hx hl) ?_
  simp (maxSteps := 4000000) -implicitDefEqProofs -dsimp (disch := omega) only [↓AW_ret, ↓AOps_nil, ↓AOps_pu, on_some, extK_false, ↓then_normal, ↓Fin_ret, pval, rd_S, put_S, resV, resL, List.replicate_succ, List.replicate_zero, List.set_cons_zero, List.set_cons_succ, List.getElem?_cons_zero, List.getElem?_cons_succ, Option.getD_some, Nat.reduceSub, List.cons_append, List.nil_append]
  exact gc_all
theorem s20 (hx : L1 A v cs) (hl : cs.length ≤ 1000000) : ACalls Try.prog 20 [v, I e] A (.tuple [outV 2 A (byO cs e (lo cs e)).length, I (vE cs e)]) (outH A ((byO cs e (lo cs e)).flatMap e2) (byO cs e (lo cs e)).length) := by
  refine acalls hmix Try.func20 (by kernel_rfl) t20 2 rfl (by decide) ?_
  dsimp only [m20]
  simp (maxSteps := 4000000) -implicitDefEqProofs -dsimp (disch := omega) only [↓AW_ops, ↓AW_seq, ↓AOps_nil, ↓AOps_pu, ↓AOps_call, on_some, ↓then_normal, pval, rd_S, rd_C, put_S, List.replicate_succ, List.replicate_zero, List.set_cons_zero, List.set_cons_succ, List.getElem?_cons_zero, List.getElem?_cons_succ, Option.getD_some, map_c, map_n, Nat.reduceSub, List.cons_append, List.nil_append]
  refine CallK.of (s55l hx hl) ?_
  simp (maxSteps := 4000000) -implicitDefEqProofs -dsimp (disch := omega) only [↓AW_ret, ↓AOps_nil, ↓AOps_pu, on_some, extK_false, ↓then_normal, ↓Fin_ret, pval, rd_S, put_S, resV, resL, List.replicate_succ, List.replicate_zero, List.set_cons_zero, List.set_cons_succ, List.getElem?_cons_zero, List.getElem?_cons_succ, Option.getD_some, Nat.reduceSub, List.cons_append, List.nil_append]
  exact gc_all
theorem s21 (hx : L1 A v cs) (hl : cs.length ≤ 1000000) : ACalls Try.prog 21 [v, I e] A (.tuple [outV 2 A (byO cs e (crt cs e)).length, I (vE cs e)]) (outH A ((byO cs e (crt cs e)).flatMap e2) (byO cs e (crt cs e)).length) := by
  refine acalls hmix Try.func21 (by kernel_rfl) t21 2 rfl (by decide) ?_
  dsimp only [m21]
  simp (maxSteps := 4000000) -implicitDefEqProofs -dsimp (disch := omega) only [↓AW_ops, ↓AW_seq, ↓AOps_nil, ↓AOps_pu, ↓AOps_call, on_some, ↓then_normal, pval, rd_S, rd_C, put_S, List.replicate_succ, List.replicate_zero, List.set_cons_zero, List.set_cons_succ, List.getElem?_cons_zero, List.getElem?_cons_succ, Option.getD_some, map_c, map_n, Nat.reduceSub, List.cons_append, List.nil_append]
  refine CallK.of (s55c hx hl) ?_
  simp (maxSteps := 4000000) -implicitDefEqProofs -dsimp (disch := omega) only [↓AW_ret, ↓AOps_nil, ↓AOps_pu, on_some, extK_false, ↓then_normal, ↓Fin_ret, pval, rd_S, put_S, resV, resL, List.replicate_succ, List.replicate_zero, List.set_cons_zero, List.set_cons_succ, List.getElem?_cons_zero, List.getElem?_cons_succ, Option.getD_some, Nat.reduceSub, List.cons_append, List.nil_append]
  exact gc_all
end
end Go.Proofs.Ytdcdjhhjlpegjaa

namespace Go.Proofs.Ytdcdjhhjlpegjaa
open Go Go.Eng
/-- The greatest number below one, or 0. -/
structure SM (c : Int) (xs : List Int) (s : Int) : Prop where
  s0 : 0 ≤ s
  s1 : s ≤ 1000
  all : ∀ d ∈ xs, d < c → d ≤ s
  is : s = 0 ∨ (s ∈ xs ∧ s < c)
section
variable {cs : List Int} {v : AV} {A : AHeap} {e : Int}
end
end Go.Proofs.Ytdcdjhhjlpegjaa

namespace Go.Proofs.Ytdcdjhhjlpegjaa
open Go Go.Eng
theorem cancel {a b d : Rat} (hd : 0 < d) (h : a * d = b * d) : a = b :=
  Rat.le_antisymm (rat_le_of_mul hd (by rw [h]; exact Rat.le_refl)) (rat_le_of_mul hd (by rw [h]; exact Rat.le_refl))
theorem half (x : Int) {d : Int} (hd : 0 < d) : ((x : Int) : Rat) / ((2 * d : Int) : Rat) = ((x : Rat) / (d : Rat)) / ((2 : Int) : Rat) := by
  have h2 := cast_pos (show (0 : Int) < 2 by decide)
  have hdr := cast_pos hd
  have h2d := cast_pos (show 0 < 2 * d by omega)
  refine cancel h2d ?_
  rw [Rat.div_mul_cancel (Ne.symm (Rat.ne_of_lt h2d)), Rat.intCast_mul, ← Rat.mul_assoc, Rat.div_mul_cancel (Ne.symm (Rat.ne_of_lt h2)), Rat.div_mul_cancel (Ne.symm (Rat.ne_of_lt hdr))]
theorem hq_eq (q : Rat) : hq q = q / ((2 : Int) : Rat) := by
  unfold hq
  rw [half _ (den_pos q), ← R_self]
theorem q_mul (q : Rat) : q * ((q.den : Int) : Rat) = ((q.num : Int) : Rat) := by
  have hdp := cast_pos (den_pos q)
  conv => lhs; lhs; rw [R_self q]
  exact Rat.div_mul_cancel (Ne.symm (Rat.ne_of_lt hdp))
theorem over_den {x : Int} {y q : Rat} (h : (x : Rat) = y * ((q.den : Int) : Rat)) : (x : Rat) / ((q.den : Int) : Rat) = y := by
  have hdp := cast_pos (den_pos q)
  refine cancel hdp ?_
  rw [Rat.div_mul_cancel (Ne.symm (Rat.ne_of_lt hdp)), h]
theorem hqc_eq (c : Int) (q : Rat) : hqc c q = (q + (c : Rat)) / ((2 : Int) : Rat) := by
  unfold hqc
  rw [half _ (den_pos q)]
  congr 1
  refine over_den ?_
  rw [Rat.intCast_add, Rat.intCast_mul, ← q_mul]
  grind
theorem crt_hi {cs : List Int} {e : Int} (h : ¬ 2 * e ≤ cs.sum) : crt cs e = cs.map (fun c : Int => hqc c ((c : Rat) - mnq c (lv cs (2 * cs.sum - 2 * e)))) := by
  unfold crt
  rw [if_neg h, lo_eq, zip_self, List.map_map]
  refine List.map_congr_left (fun c _ => ?_)
  show hqc c ((c : Rat) - mnq c (lv cs (cs.sum - (2 * e - cs.sum)))) = _
  have : cs.sum - (2 * e - cs.sum) = 2 * cs.sum - 2 * e := by omega
  rw [this]
theorem mnq_den {cs : List Int} {e : Int} {k : Int} (hd : ((lv cs e).den : Int) ∣ k) (c : Int) : ((mnq c (lv cs e)).den : Int) ∣ k := by
  unfold mnq
  split
  · rw [Rat.den_intCast]; exact Int.one_dvd _
  · exact hd
theorem sub_den {c : Int} {q : Rat} {k : Int} (h : (q.den : Int) ∣ k) : (((c : Rat) - q).den : Int) ∣ k := by
  have hd : (((c : Rat) - q).den : Int) ∣ (q.den : Int) := by
    rw [← lsq_eq c q]
    exact div_den (den_pos q)
  exact Int.dvd_trans hd h
theorem mnq0 {c : Int} {l : Rat} (hc : 0 ≤ c) (hl : 0 ≤ l) : 0 ≤ mnq c l := mnq_ge hl (cast_nonneg hc)
theorem aw_ok {cs : List Int} {e : Int} (hc : CE cs e) : chE cs e ((aw cs e).map rp) = 0 := by
  obtain ⟨hL, k, hk, hd⟩ := lv_char hc
  have hl8 := hc.ok.l8
  refine chE_ok hc (E := k) (by omega) (aw_len cs e) (fun q hq => ?_) (fun z hz => ?_) hL.s
  · obtain ⟨c, hcm, rfl⟩ := List.mem_map.1 hq
    exact ⟨mnq_den hd c, mnq0 (hc.ok.c c hcm).1 hL.l0⟩
  · unfold aw capL at hz
    rw [zip_self] at hz
    obtain ⟨c, hcm, rfl⟩ := List.mem_map.1 hz
    exact (mnq_le _ _).2
theorem sum_sub (f : Int → Rat) : ∀ cs : List Int, (cs.map (fun c : Int => (c : Rat) - f c)).sum = ((cs.sum : Int) : Rat) - (cs.map f).sum
  | [] => by simp only [List.map_nil, List.sum_nil]; rw [int0]; grind
  | c :: cs => by
    rw [List.map_cons, List.map_cons, List.sum_cons, List.sum_cons, List.sum_cons, sum_sub f cs, Rat.intCast_add]
    grind
theorem sum_sub2 (f : Int → Rat) : ∀ cs : List Int, (cs.map (fun c : Int => f c - (c : Rat))).sum = (cs.map f).sum - ((cs.sum : Int) : Rat)
  | [] => by simp only [List.map_nil, List.sum_nil]; rw [int0]; grind
  | c :: cs => by
    rw [List.map_cons, List.map_cons, List.sum_cons, List.sum_cons, List.sum_cons, sum_sub2 f cs, Rat.intCast_add]
    grind
theorem lo_ok {cs : List Int} {e : Int} (hc : CE cs e) : chE cs e ((lo cs e).map rp) = 0 := by
  obtain ⟨hL, k, hk, hd⟩ := lv_char hc.sub
  have hl8 := hc.ok.l8
  refine chE_ok hc (E := k) (by omega) (lo_len cs e) (fun q hq => ?_) (fun z hz => ?_) ?_
  · rw [lo_eq] at hq
    obtain ⟨c, hcm, rfl⟩ := List.mem_map.1 hq
    have := (mnq_le c (lv cs (cs.sum - e))).2
    exact ⟨sub_den (mnq_den hd c), by grind⟩
  · rw [lo_eq, zip_self] at hz
    obtain ⟨c, hcm, rfl⟩ := List.mem_map.1 hz
    have := mnq0 (hc.ok.c c hcm).1 hL.l0
    show (c : Rat) - mnq c (lv cs (cs.sum - e)) ≤ (c : Rat)
    grind
  · rw [lo_eq, sum_sub]
    have := hL.s
    unfold capL at this
    rw [this, Rat.intCast_sub]
    grind
theorem sum_half : ∀ qs : List Rat, (qs.map hq).sum = qs.sum / ((2 : Int) : Rat)
  | [] => by simp only [List.map_nil, List.sum_nil]; rw [Rat.div_def, Rat.zero_mul]
  | q :: qs => by
    rw [List.map_cons, List.sum_cons, List.sum_cons, sum_half qs, hq_eq, Rat.div_def, Rat.div_def, Rat.div_def, Rat.add_mul]
theorem two_div (x : Int) : ((2 * x : Int) : Rat) / ((2 : Int) : Rat) = (x : Rat) := by
  have h2 := cast_pos (show (0 : Int) < 2 by decide)
  refine cancel h2 ?_
  rw [Rat.div_mul_cancel (Ne.symm (Rat.ne_of_lt h2)), Rat.intCast_mul, Rat.mul_comm]
theorem half_le {q x : Rat} (h0 : 0 ≤ q) (h : q ≤ x + x) : 0 ≤ q / ((2 : Int) : Rat) ∧ q / ((2 : Int) : Rat) ≤ x := by
  have h2 := cast_pos (show (0 : Int) < 2 by decide)
  refine ⟨div_ge0 h2 h0, rat_le_of_mul h2 ?_⟩
  rw [Rat.div_mul_cancel (Ne.symm (Rat.ne_of_lt h2))]
  have : x * ((2 : Int) : Rat) = x + x := by
    have : ((2 : Int) : Rat) = 1 + 1 := by rw [show (2 : Int) = 1 + 1 from rfl, Rat.intCast_add]; rfl
    rw [this]; grind
  rw [this]
  exact h
theorem hq_den {q : Rat} {k : Int} (h : (q.den : Int) ∣ k) : ((hq q).den : Int) ∣ 2 * k := by
  have h1 : ((hq q).den : Int) ∣ 2 * (q.den : Int) := div_den (by have := den_pos q; omega)
  exact Int.dvd_trans h1 (Int.mul_dvd_mul_left 2 h)
theorem hqc_den {c : Int} {q : Rat} {k : Int} (h : (q.den : Int) ∣ k) : ((hqc c q).den : Int) ∣ 2 * k := by
  have h1 : ((hqc c q).den : Int) ∣ 2 * (q.den : Int) := div_den (by have := den_pos q; omega)
  exact Int.dvd_trans h1 (Int.mul_dvd_mul_left 2 h)
theorem crt_ok {cs : List Int} {e : Int} (hc : CE cs e) : chE cs e ((crt cs e).map rp) = 0 := by
  have hl8 := hc.ok.l8
  have he0 := hc.e0
  have he1 := hc.e1
  by_cases h : 2 * e ≤ cs.sum
  · have hc2 : CE cs (2 * e) := ⟨hc.ok, by omega, h⟩
    obtain ⟨hL, k, hk, hd⟩ := lv_char hc2
    have hE : crt cs e = cs.map (fun c => hq (mnq c (lv cs (2 * e)))) := by
      unfold crt aw capL
      rw [if_pos h, List.map_map]
      rfl
    refine chE_ok hc (E := 2 * k) (by omega) (crt_len cs e) (fun q hq => ?_) (fun z hz => ?_) ?_
    · rw [hE] at hq
      obtain ⟨c, hcm, rfl⟩ := List.mem_map.1 hq
      refine ⟨hq_den (mnq_den hd c), ?_⟩
      rw [hq_eq]
      exact div_ge0 (cast_pos (by decide)) (mnq0 (hc.ok.c c hcm).1 hL.l0)
    · rw [hE, zip_self] at hz
      obtain ⟨c, hcm, rfl⟩ := List.mem_map.1 hz
      show hq (mnq c (lv cs (2 * e))) ≤ (c : Rat)
      rw [hq_eq]
      have h0 := mnq0 (hc.ok.c c hcm).1 hL.l0
      have h1 := (mnq_le c (lv cs (2 * e))).2
      exact (half_le h0 (by grind)).2
    · unfold crt aw
      rw [if_pos h, sum_half, hL.s, two_div]
  · have hc2 : CE cs (2 * cs.sum - 2 * e) := ⟨hc.ok, by omega, by omega⟩
    obtain ⟨hL, k, hk, hd⟩ := lv_char hc2
    have hE := crt_hi h
    refine chE_ok hc (E := 2 * k) (by omega) (crt_len cs e) (fun q hq => ?_) (fun z hz => ?_) ?_
    · rw [hE] at hq
      obtain ⟨c, hcm, rfl⟩ := List.mem_map.1 hq
      refine ⟨hqc_den (sub_den (mnq_den hd c)), ?_⟩
      rw [hqc_eq]
      have h1 := (mnq_le c (lv cs (2 * cs.sum - 2 * e))).2
      have h2 := cast_nonneg (hc.ok.c c hcm).1
      exact div_ge0 (cast_pos (by decide)) (by grind)
    · rw [hE, zip_self] at hz
      obtain ⟨c, hcm, rfl⟩ := List.mem_map.1 hz
      show hqc c ((c : Rat) - mnq c (lv cs (2 * cs.sum - 2 * e))) ≤ (c : Rat)
      rw [hqc_eq]
      have h0 := mnq0 (hc.ok.c c hcm).1 hL.l0
      have h1 := (mnq_le c (lv cs (2 * cs.sum - 2 * e))).2
      have h2 := cast_nonneg (hc.ok.c c hcm).1
      exact (half_le (by grind) (by grind)).2
    · rw [hE]
      have e1 : cs.map (fun c : Int => hqc c ((c : Rat) - mnq c (lv cs (2 * cs.sum - 2 * e)))) = (cs.map (fun c : Int => (c : Rat) - (mnq c (lv cs (2 * cs.sum - 2 * e)) - (c : Rat)))).map (fun q => q / ((2 : Int) : Rat)) := by
        rw [List.map_map]
        refine List.map_congr_left (fun c _ => ?_)
        show hqc c _ = ((c : Rat) - _) / _
        rw [hqc_eq]
        congr 1
        grind
      have e2 : ∀ qs : List Rat, (qs.map (fun q => q / ((2 : Int) : Rat))).sum = qs.sum / ((2 : Int) : Rat) := by
        intro qs
        have := sum_half qs
        rw [← this]
        congr 1
        exact List.map_congr_left (fun q _ => (hq_eq q).symm)
      have e3 : (cs.map (fun c : Int => mnq c (lv cs (2 * cs.sum - 2 * e)) - (c : Rat))).sum = ((2 * cs.sum - 2 * e : Int) : Rat) - ((cs.sum : Int) : Rat) := by
        have h5 := hL.s
        unfold capL at h5
        rw [sum_sub2, h5]
      rw [e1, e2, sum_sub, e3, ← two_div e]
      congr 1
      rw [← Rat.intCast_sub, ← Rat.intCast_sub]
      congr 1
      omega
end Go.Proofs.Ytdcdjhhjlpegjaa

namespace Go.Proofs.Ytdcdjhhjlpegjaa
open Go Go.Eng
section
variable {cs : List Int} {v : AV} {A : AHeap} {e : Int}
end
end Go.Proofs.Ytdcdjhhjlpegjaa

namespace Go.Proofs.Ytdcdjhhjlpegjaa
open Go Go.Eng
section
variable {cs : List Int} {v : AV} {A : AHeap} {e : Int}
end
end Go.Proofs.Ytdcdjhhjlpegjaa

namespace Go.Proofs.Ytdcdjhhjlpegjaa
open Go Go.Eng
section
variable {cs : List Int} {e : Int}
theorem rsub_mul (a b c : Rat) : (a - b) * c = a * c - b * c := by grind
theorem hf_add (q : Rat) : q / ((2 : Int) : Rat) + q / ((2 : Int) : Rat) = q := by
  have h2 := cast_pos (show (0 : Int) < 2 by decide)
  have h : q / ((2 : Int) : Rat) * ((2 : Int) : Rat) = q := Rat.div_mul_cancel (Ne.symm (Rat.ne_of_lt h2))
  have : ((2 : Int) : Rat) = 1 + 1 := by rw [show (2 : Int) = 1 + 1 from rfl, Rat.intCast_add]; rfl
  generalize q / ((2 : Int) : Rat) = x at *
  rw [this] at h
  grind
/-- What the court gives for a claim. -/
def crf (cs : List Int) (e c : Int) : Rat := if 2 * e ≤ cs.sum then mnq c (lv cs (2 * e)) / ((2 : Int) : Rat) else ((c : Rat) - mnq c (lv cs (2 * cs.sum - 2 * e)) + (c : Rat)) / ((2 : Int) : Rat)
theorem crt_map (cs : List Int) (e : Int) : crt cs e = cs.map (crf cs e) := by
  by_cases h : 2 * e ≤ cs.sum
  · unfold crt aw capL
    rw [if_pos h, List.map_map]
    refine List.map_congr_left (fun c _ => ?_)
    unfold crf
    rw [if_pos h]
    exact hq_eq _
  · rw [crt_hi h]
    refine List.map_congr_left (fun c _ => ?_)
    unfold crf
    rw [if_neg h]
    exact hqc_eq _ _
/-- A greater claim has no smaller award, and no smaller loss. -/
def UpF (cs : List Int) (f : Int → Rat) : Prop := ∀ c ∈ cs, ∀ d ∈ cs, c ≤ d → 0 ≤ f d - f c ∧ f d - f c ≤ (d : Rat) - (c : Rat)
theorem up_mnq (l : Rat) : UpF cs (fun c => mnq c l) := by
  intro c _ d _ h
  have h0 := mnq_monoc l h
  have hcd : (c : Rat) ≤ (d : Rat) := Rat.intCast_le_intCast.2 h
  refine ⟨by show (0 : Rat) ≤ mnq d l - mnq c l; grind, ?_⟩
  show mnq d l - mnq c l ≤ _
  unfold mnq
  split
  · split
    · grind
    · grind
  · split
    · grind
    · grind
theorem up_sub {f : Int → Rat} (h : UpF cs f) : UpF cs (fun c : Int => (c : Rat) - f c) := by
  intro c hc d hd hcd
  obtain ⟨h1, h2⟩ := h c hc d hd hcd
  constructor
  · show (0 : Rat) ≤ ((d : Rat) - f d) - ((c : Rat) - f c); grind
  · show ((d : Rat) - f d) - ((c : Rat) - f c) ≤ _; grind
theorem up_pts (hc : CE cs e) : UpF cs (fun c => ((c * e : Int) : Rat) / ((max 1 cs.sum : Int) : Rat)) := by
  intro c hcm d hdm h
  have hT : 0 < max 1 cs.sum := by omega
  have hTr := cast_pos hT
  have hne := Ne.symm (Rat.ne_of_lt hTr)
  have he0 := hc.e0
  have he1 := hc.e1
  have e1 : ((d * e : Int) : Rat) / ((max 1 cs.sum : Int) : Rat) - ((c * e : Int) : Rat) / ((max 1 cs.sum : Int) : Rat) = (((d - c) * e : Int) : Rat) / ((max 1 cs.sum : Int) : Rat) := by
    rw [Int.sub_mul, Rat.intCast_sub, Rat.div_def, Rat.div_def, Rat.div_def, rsub_mul]
  show 0 ≤ ((d * e : Int) : Rat) / _ - ((c * e : Int) : Rat) / _ ∧ ((d * e : Int) : Rat) / _ - ((c * e : Int) : Rat) / _ ≤ _
  rw [e1]
  refine ⟨div_ge0 hTr (cast_nonneg (Int.mul_nonneg (by omega) he0)), ?_⟩
  rw [← Rat.intCast_sub]
  refine div_le hTr ?_
  rw [← Rat.intCast_mul]
  exact Rat.intCast_le_intCast.2 (Int.mul_le_mul_of_nonneg_left (by omega) (by omega))
theorem up_crf : UpF cs (crf cs e) := by
  intro c hcm d hdm h
  unfold crf
  split
  · obtain ⟨h1, h2⟩ := up_mnq (cs := cs) (lv cs (2 * e)) c hcm d hdm h
    have h3 := hf_add (mnq c (lv cs (2 * e)))
    have h4 := hf_add (mnq d (lv cs (2 * e)))
    have hcd : (c : Rat) ≤ (d : Rat) := Rat.intCast_le_intCast.2 h
    constructor <;> grind
  · obtain ⟨h1, h2⟩ := up_mnq (cs := cs) (lv cs (2 * cs.sum - 2 * e)) c hcm d hdm h
    have h3 := hf_add ((c : Rat) - mnq c (lv cs (2 * cs.sum - 2 * e)) + (c : Rat))
    have h4 := hf_add ((d : Rat) - mnq d (lv cs (2 * cs.sum - 2 * e)) + (d : Rat))
    have hcd : (c : Rat) ≤ (d : Rat) := Rat.intCast_le_intCast.2 h
    constructor <;> grind
theorem ord_int {a b : Rat} {x : Int} (h0 : 0 ≤ b - a) (h1 : b - a ≤ (x : Rat)) : 0 ≤ b.num * (a.den : Int) - a.num * (b.den : Int) ∧ b.num * (a.den : Int) - a.num * (b.den : Int) ≤ x * (a.den : Int) * (b.den : Int) := by
  have pa := cast_pos (den_pos a)
  have pb := cast_pos (den_pos b)
  have qa := q_mul a
  have qb := q_mul b
  have hc : ((b.num * (a.den : Int) - a.num * (b.den : Int) : Int) : Rat) = (b - a) * (((a.den : Int) : Rat) * ((b.den : Int) : Rat)) := by
    rw [Rat.intCast_sub, Rat.intCast_mul, Rat.intCast_mul, ← qa, ← qb]
    generalize ((a.den : Int) : Rat) = u at *
    generalize ((b.den : Int) : Rat) = w at *
    grind
  have hp := Rat.mul_pos pa pb
  constructor
  · refine Rat.intCast_le_intCast.1 ?_
    rw [hc, int0]
    exact Rat.mul_nonneg h0 (Rat.le_of_lt hp)
  · refine Rat.intCast_le_intCast.1 ?_
    rw [hc, Rat.intCast_mul, Rat.intCast_mul, Rat.mul_assoc]
    exact Rat.mul_le_mul_of_nonneg_right h1 (Rat.le_of_lt hp)
end
end Go.Proofs.Ytdcdjhhjlpegjaa

namespace Go.Proofs.Ytdcdjhhjlpegjaa
open Go Go.Eng
theorem out2 {f : Nat} {args : List AV} {A : AHeap} {xs : List (Int × Int)} {n : Int} (h : ACalls Try.prog f args A (.tuple [outV 2 A xs.length, I n]) (outH A (xs.flatMap e2) xs.length)) :
    ∃ r H, ACalls Try.prog f args A (.tuple [r, I n]) H ∧ A <+: H ∧ L2 H r xs := ⟨_, _, h, pre_out A _ _, Ls_out A e2_len xs⟩
section
variable {cs : List Int} {rs : List (Int × Int)} {v u : AV} {A : AHeap} {e : Int}
theorem byO_0 (hc : CE cs e) (qs : List Rat) : byO cs e qs = qs.map rp := if_pos (vE_0.2 hc)
theorem r_pts (hx : L1 A v cs) (hl : cs.length ≤ 1000000) (hc : CE cs e) : ∃ r H, ACalls Try.prog 18 [v, I e] A (.tuple [r, I 0]) H ∧ A <+: H ∧ L2 H r ((pts cs e).map rp) := by
  have h := out2 (s18 (e := e) hx hl)
  rw [byO_0 hc, vE_0.2 hc] at h
  exact h
theorem r_aw (hx : L1 A v cs) (hl : cs.length ≤ 1000000) (hc : CE cs e) : ∃ r H, ACalls Try.prog 19 [v, I e] A (.tuple [r, I 0]) H ∧ A <+: H ∧ L2 H r ((aw cs e).map rp) := by
  have h := out2 (s19 (e := e) hx hl)
  rw [byO_0 hc, vE_0.2 hc] at h
  exact h
theorem r_lo (hx : L1 A v cs) (hl : cs.length ≤ 1000000) (hc : CE cs e) : ∃ r H, ACalls Try.prog 20 [v, I e] A (.tuple [r, I 0]) H ∧ A <+: H ∧ L2 H r ((lo cs e).map rp) := by
  have h := out2 (s20 (e := e) hx hl)
  rw [byO_0 hc, vE_0.2 hc] at h
  exact h
theorem r_crt (hx : L1 A v cs) (hl : cs.length ≤ 1000000) (hc : CE cs e) : ∃ r H, ACalls Try.prog 21 [v, I e] A (.tuple [r, I 0]) H ∧ A <+: H ∧ L2 H r ((crt cs e).map rp) := by
  have h := out2 (s21 (e := e) hx hl)
  rw [byO_0 hc, vE_0.2 hc] at h
  exact h
end
end Go.Proofs.Ytdcdjhhjlpegjaa

namespace Go.Proofs.Ytdcdjhhjlpegjaa
open Go Go.Eng
theorem mulb {x y X Y : Int} (hx : 0 ≤ x ∧ x ≤ X) (hy : 0 ≤ y ∧ y ≤ Y) : 0 ≤ x * y ∧ x * y ≤ X * Y :=
  ⟨Int.mul_nonneg hx.1 hy.1, Int.le_trans (Int.mul_le_mul_of_nonneg_right hx.2 hy.1) (Int.mul_le_mul_of_nonneg_left hy.2 (by omega))⟩
section
variable {cs : List Int} {v u : AV} {A : AHeap} {e : Int}
set_option maxRecDepth 20000 in
set_option maxHeartbeats 8000000 in
theorem c_ordered (hx : L1 A v cs) (hc : CE cs e) {f : Int → Rat} (hu : L2 A u ((cs.map f).map rp)) (hf : UpF cs f) (hch : chE cs e ((cs.map f).map rp) = 0) : ACalls Try.prog 22 [v, u] A (B true) A := by
  obtain ⟨_, hcm, _, _, _⟩ := chE_0.1 hch
  obtain ⟨hfit, _, _, _⟩ := cm_facts ((cs.map f).map rp) 1 (by omega) hcm
  have hl1 := hc.ok.l1
  have hl8 := hc.ok.l8
  have hlen : ((cs.map f).map rp).length = cs.length := by simp
  have hul := hu.len
  rw [hlen] at hul
  have hpos : (0 : Int) < cs.length := by omega
  refine acalls hmix Try.func22 (by kernel_rfl) t22 2 rfl (by decide) ?_
  dsimp only [m22]
  simp (maxSteps := 4000000) -implicitDefEqProofs -dsimp (disch := omega) only [↓AW_ops, ↓AW_seq, ↓AOps_nil, ↓AOps_pu, ↓AOps_call, ↓AOps_guard, on_some, guardB_tt, guardB_ff, ↓then_normal, pval, rd_S, rd_C, put_S, eq_self, List.replicate_succ, List.replicate_zero, List.set_cons_zero, List.set_cons_succ, List.getElem?_cons_zero, List.getElem?_cons_succ, Option.getD_some, map_c, map_n, Nat.reduceSub, List.cons_append, List.nil_append, bin_neq, bin_gtr, decide_true, decide_false, not_true_eq_false, hx.len, hul, hpos]
  refine CallK.of (c_Common hu (by rw [hlen]; omega)) ?_
  simp (maxSteps := 4000000) -implicitDefEqProofs -dsimp (disch := omega) only [↓AW_skip, ↓AW_ops, ↓AW_seq, ↓AW_cond, ↓AW_block, ↓AOps_nil, ↓AOps_pu, ↓AOps_guard, on_some, extK_same, guardB_tt, guardB_ff, condB_f, ↓then_normal, pval, rd_S, rd_C, put_S, ↓AW_toLoop, eq_self, List.replicate_succ, List.replicate_zero, List.set_cons_zero, List.set_cons_succ, List.getElem?_cons_zero, List.getElem?_cons_succ, Option.getD_some, Nat.reduceSub, List.cons_append, List.nil_append, bin_eql, if_true, if_false, Bool.false_eq_true, decide_false, hcm]
  have get : ∀ (i : Nat) (c : Int), cs[i]? = some c → ((cs.map f).map rp)[i]? = some (rp (f c)) := by
    intro i c h
    rw [List.getElem?_map, List.getElem?_map, h]
    rfl
  have bd : ∀ c ∈ cs, (1 ≤ ((f c).den : Int) ∧ ((f c).den : Int) ≤ 10000) ∧ (0 ≤ (f c).num ∧ (f c).num ≤ 10000000) := by
    intro c h
    have := (hfit (rp (f c)) (List.mem_map_of_mem (List.mem_map_of_mem h))).1
    exact ⟨this.1, this.2.1⟩
  refine LoopK.by 88 (fun i : Nat => i ≤ cs.length) (fun i => [(0, v), (1, u), (5, I i)]) (fun _ => A) (fun i => cs.length - i) 0 (by omega) rfl (by simp [Has, rd_s]) rfl ?_
  intro i hi
  by_cases hlt : i < cs.length
  · obtain ⟨c, hz⟩ : ∃ z, cs[i]? = some z := ⟨_, List.getElem?_eq_getElem hlt⟩
    have hlt' : (i : Int) < cs.length := by omega
    have hci := List.mem_of_getElem? hz
    simp (maxSteps := 4000000) -implicitDefEqProofs -dsimp (disch := omega) only [↓AW_skip, ↓AW_ops, ↓AW_seq, ↓AW_cond, ↓AW_block, ↓AOps_nil, ↓AOps_pu, on_some, condB_t, ↓then_normal, pval, rd_S, rd_C, put_S, ↓AW_toLoop, mk, List.foldl_cons, List.foldl_nil, List.replicate_succ, List.replicate_zero, List.set_cons_zero, List.set_cons_succ, List.getElem?_cons_zero, List.getElem?_cons_succ, Option.getD_some, bin_lss, decide_true, hlt', hx.len]
    refine LoopK.by 88 (fun k : Nat => k ≤ cs.length) (fun k => [(0, v), (1, u), (5, I i), (6, I k)]) (fun _ => A) (fun k => cs.length - k) 0 (by omega) rfl (by simp [Has, rd_s]) rfl ?_
    intro k hk
    by_cases hkl : k < cs.length
    · have hkl' : (k : Int) < cs.length := by omega
      obtain ⟨d, hd⟩ : ∃ d, cs[k]? = some d := ⟨_, List.getElem?_eq_getElem hkl⟩
      have hdi := List.mem_of_getElem? hd
      obtain ⟨da, na⟩ := bd c hci
      obtain ⟨db, nb⟩ := bd d hdi
      have cc := hc.ok.c c hci
      have cd := hc.ok.c d hdi
      have g1 := get i c hz
      have g2 := get k d hd
      have hi2 : i < ((cs.map f).map rp).length := by rw [hlen]; exact hlt
      have hk2 : k < ((cs.map f).map rp).length := by rw [hlen]; exact hkl
      have m1 := mulb nb (show 0 ≤ ((f c).den : Int) ∧ ((f c).den : Int) ≤ 10000 by omega)
      have m2 := mulb na (show 0 ≤ ((f d).den : Int) ∧ ((f d).den : Int) ≤ 10000 by omega)
      by_cases hcd : c ≤ d
      · have m3 := mulb (show 0 ≤ d - c ∧ d - c ≤ 1000 by omega) (show 0 ≤ ((f c).den : Int) ∧ ((f c).den : Int) ≤ 10000 by omega)
        have m4 := mulb m3 (show 0 ≤ ((f d).den : Int) ∧ ((f d).den : Int) ≤ 10000 by omega)
        obtain ⟨h1, h2⟩ := hf c hci d hdi hcd
        rw [← Rat.intCast_sub] at h2
        obtain ⟨o1, o2⟩ := ord_int h1 h2
        have p1 : (rp (f c)).1 = (f c).num := rfl
        have p2 : (rp (f c)).2 = ((f c).den : Int) := rfl
        have p3 : (rp (f d)).1 = (f d).num := rfl
        have p4 : (rp (f d)).2 = ((f d).den : Int) := rfl
        generalize (f c).num = x1 at *
        generalize (f d).num = x2 at *
        generalize ((f c).den : Int) = y1 at *
        generalize ((f d).den : Int) = y2 at *
        generalize hA1 : x2 * y1 = a1 at *
        generalize hA2 : x1 * y2 = a2 at *
        generalize hA3 : (d - c) * y1 = a3 at *
        generalize hA4 : a3 * y2 = a4 at *
        have q1 : ¬ a1 - a2 < 0 := by omega
        have q2 : ¬ a4 < a1 - a2 := by omega
        simp (maxSteps := 4000000) -implicitDefEqProofs -dsimp (disch := omega) only [↓AW_skip, ↓AW_ops, ↓AW_seq, ↓AW_cond, ↓AW_block, ↓AOps_nil, ↓AOps_pu, ↓AOps_ld, ↓AOps_guard, on_some, guardB_tt, guardB_ff, condB_t, condB_f, ↓then_normal, ↓inBlock_normal, pval, lval, rd_S, rd_C, put_S, chkd, isAdr, bput, bgot, AV.cells?, splice, partA, eq_self, mk, List.foldl_cons, List.foldl_nil, List.replicate_succ, List.replicate_zero, List.set_cons_zero, List.set_cons_succ, List.getElem?_cons_zero, List.getElem?_cons_succ, List.drop_zero, List.drop_succ_cons, List.drop_nil, List.take_zero, List.take_succ_cons, List.take_nil, Option.getD_some, List.length_cons, List.length_nil, Nat.reduceAdd, Nat.reduceLeDiff, Nat.reduceEqDiff, Nat.zero_add, List.nil_append, List.append_nil, bin_add, bin_sub, bin_mul, bin_lss, bin_leq, bin_gtr, w64, if_true, if_false, Bool.false_eq_true, decide_true, decide_false, Go.Eng.e1, Go.Eng.e2, true_and, ne_eq, not_true_eq_false, hkl', hx.len, hx.idx hlt, hx.idx hkl, hx.ld0 hz 1 false (by decide), hx.ld0 hd 1 false (by decide), hu.idx hi2, hu.idx hk2, hu.ld0 g1 2 true (by decide), hu.ld0 g2 2 true (by decide), p1, p2, p3, p4, hA1, hA2, hA3, hA4, hcd, q1, q2]
        exact ⟨k + 1, hkl, by simp [Has, rd_s], by omega⟩
      · have p1 : (rp (f c)).1 = (f c).num := rfl
        have p2 : (rp (f c)).2 = ((f c).den : Int) := rfl
        have p3 : (rp (f d)).1 = (f d).num := rfl
        have p4 : (rp (f d)).2 = ((f d).den : Int) := rfl
        generalize (f c).num = x1 at *
        generalize (f d).num = x2 at *
        generalize ((f c).den : Int) = y1 at *
        generalize ((f d).den : Int) = y2 at *
        generalize hA1 : x2 * y1 = a1 at *
        generalize hA2 : x1 * y2 = a2 at *
        simp (maxSteps := 4000000) -implicitDefEqProofs -dsimp (disch := omega) only [↓AW_skip, ↓AW_ops, ↓AW_seq, ↓AW_cond, ↓AW_block, ↓AOps_nil, ↓AOps_pu, ↓AOps_ld, ↓AOps_guard, on_some, guardB_ft, guardB_undef, skipS_some, condB_t, condB_f, ↓then_normal, ↓inBlock_normal, pval, lval, rd_S, rd_C, put_S, chkd, isAdr, bput, bgot, AV.cells?, splice, partA, eq_self, mk, List.foldl_cons, List.foldl_nil, List.replicate_succ, List.replicate_zero, List.set_cons_zero, List.set_cons_succ, List.getElem?_cons_zero, List.getElem?_cons_succ, List.drop_zero, List.drop_succ_cons, List.drop_nil, List.take_zero, List.take_succ_cons, List.take_nil, Option.getD_some, List.length_cons, List.length_nil, Nat.reduceAdd, Nat.reduceLeDiff, Nat.reduceEqDiff, Nat.zero_add, List.nil_append, List.append_nil, bin_add, bin_sub, bin_mul, bin_lss, bin_leq, w64, if_true, if_false, Bool.false_eq_true, decide_true, decide_false, Go.Eng.e1, Go.Eng.e2, true_and, ne_eq, not_true_eq_false, hkl', hx.len, hx.idx hlt, hx.idx hkl, hx.ld0 hz 1 false (by decide), hx.ld0 hd 1 false (by decide), hu.idx hi2, hu.idx hk2, hu.ld0 g1 2 true (by decide), hu.ld0 g2 2 true (by decide), p1, p2, p3, p4, hA1, hA2, hcd]
        exact ⟨k + 1, hkl, by simp [Has, rd_s], by omega⟩
    · have hkl' : ¬ ((k : Int) < cs.length) := by omega
      simp (maxSteps := 4000000) -implicitDefEqProofs -dsimp (disch := omega) only [↓AW_ops, ↓AW_seq, ↓AW_cond, ↓AW_exit, ↓AW_ret, ↓AOps_nil, ↓AOps_pu, on_some, condB_f, ↓then_normal, ↓then_exit, ↓inBlock_normal, ↓inBlock_exit, ↓Fin_ret, pval, rd_S, rd_C, put_S, resV, resL, eq_self, mk, List.foldl_cons, List.foldl_nil, List.replicate_succ, List.replicate_zero, List.set_cons_zero, List.set_cons_succ, List.getElem?_cons_zero, List.getElem?_cons_succ, Option.getD_some, List.length_cons, List.length_nil, Nat.reduceAdd, Nat.reduceEqDiff, Nat.zero_add, bin_add, bin_lss, w64, if_true, if_false, decide_false, true_and, reduceCtorEq, hkl', hx.len]
      exact ⟨i + 1, hlt, by simp [Has, rd_s], by omega⟩
  · have hlt' : ¬ ((i : Int) < cs.length) := by omega
    simp (maxSteps := 4000000) -implicitDefEqProofs -dsimp (disch := omega) only [↓AW_ops, ↓AW_seq, ↓AW_cond, ↓AW_exit, ↓AW_ret, ↓AOps_nil, ↓AOps_pu, on_some, condB_f, ↓then_normal, ↓then_exit, ↓inBlock_exit, ↓Fin_ret, pval, rd_S, rd_C, put_S, resV, resL, eq_self, mk, List.foldl_cons, List.foldl_nil, List.replicate_succ, List.replicate_zero, List.set_cons_zero, List.set_cons_succ, List.getElem?_cons_zero, List.getElem?_cons_succ, Option.getD_some, bin_lss, if_true, decide_false, hlt', hx.len]
    exact gc_same rfl
set_option maxRecDepth 20000 in
set_option maxHeartbeats 8000000 in
theorem s3 (hx : L1 A v cs) : ACalls Try.prog 3 [.agg [v, I e]] A (B true) A := by
  refine acalls hmix Try.func3 (by kernel_rfl) t3 1 rfl (by decide) ?_
  dsimp only [m3]
  simp (maxSteps := 4000000) -implicitDefEqProofs -dsimp (disch := omega) only [↓AW_ops, ↓AW_seq, ↓AOps_nil, ↓AOps_pu, ↓AOps_call, on_some, ↓then_normal, pval, rd_S, rd_C, put_S, chkd, bgot, AV.cells?, partA, eq_self, List.replicate_succ, List.replicate_zero, List.set_cons_zero, List.set_cons_succ, List.getElem?_cons_zero, List.getElem?_cons_succ, List.drop_zero, List.take_succ_cons, List.take_nil, Option.getD_some, map_c, map_n, List.length_cons, List.length_nil, Nat.reduceAdd, Nat.reduceSub, Nat.reduceLeDiff, Nat.reduceEqDiff, Nat.zero_add, List.cons_append, List.nil_append, if_true, if_false]
  refine CallK.of (s15 hx) ?_
  by_cases h1 : (40 : Int) < cs.length
  · simp (maxSteps := 4000000) -implicitDefEqProofs -dsimp (disch := omega) only [↓AW_ops, ↓AW_seq, ↓AW_cond, ↓AOps_nil, ↓AOps_pu, ↓AOps_call, ↓AOps_guard, on_some, extK_same, guardB_tf, skipS_some, condB_t, ↓then_normal, pval, rd_S, rd_C, put_S, eq_self, List.replicate_succ, List.replicate_zero, List.set_cons_zero, List.set_cons_succ, List.getElem?_cons_zero, List.getElem?_cons_succ, Option.getD_some, map_n, Nat.reduceSub, List.cons_append, List.nil_append, if_true, decide_true, h1]
    refine CallK.of (known A) ?_
    simp (maxSteps := 4000000) -implicitDefEqProofs -dsimp (disch := omega) only [↓AW_ret, ↓AOps_nil, ↓AOps_pu, on_some, extK_same, skipS_some, ↓then_normal, ↓then_ret, ↓Fin_ret, pval, rd_S, put_S, resV, resL, List.replicate_succ, List.replicate_zero, List.set_cons_zero, List.set_cons_succ, List.getElem?_cons_zero, List.getElem?_cons_succ, Option.getD_some, Nat.reduceSub, List.cons_append, List.nil_append]
    exact gc_same rfl
  have hl : cs.length ≤ 1000000 := by omega
  simp (maxSteps := 4000000) -implicitDefEqProofs -dsimp (disch := omega) only [↓AOps_pu, ↓AOps_call, ↓AOps_guard, on_some, extK_same, guardB_ff, pval, rd_S, put_S, chkd, isAdr, bgot, AV.cells?, partA, eq_self, List.replicate_succ, List.replicate_zero, List.set_cons_zero, List.set_cons_succ, List.getElem?_cons_zero, List.getElem?_cons_succ, List.drop_zero, List.drop_succ_cons, List.take_zero, List.take_succ_cons, List.take_nil, Option.getD_some, map_c, map_n, List.length_cons, List.length_nil, Nat.reduceAdd, Nat.reduceSub, Nat.reduceLeDiff, Nat.zero_add, List.cons_append, List.nil_append, if_true, if_false, Bool.false_eq_true, decide_false, h1]
  refine CallK.of (s16 hx hl e) ?_
  by_cases h0 : vE cs e = 0
  case neg =>
    simp (maxSteps := 4000000) -implicitDefEqProofs -dsimp (disch := omega) only [↓AW_ops, ↓AW_seq, ↓AW_cond, ↓AOps_nil, ↓AOps_pu, ↓AOps_call, ↓AOps_guard, on_some, extK_same, guardB_ff, condB_t, ↓then_normal, pval, rd_S, rd_C, put_S, List.replicate_succ, List.replicate_zero, List.set_cons_zero, List.set_cons_succ, List.getElem?_cons_zero, List.getElem?_cons_succ, Option.getD_some, map_n, Nat.reduceSub, List.cons_append, List.nil_append, bin_neq, if_false, Bool.false_eq_true, decide_true, not_false_eq_true, h0]
    refine CallK.of (known A) ?_
    simp (maxSteps := 4000000) -implicitDefEqProofs -dsimp (disch := omega) only [↓AW_ret, ↓AOps_nil, ↓AOps_pu, on_some, extK_same, ↓then_normal, ↓then_ret, ↓Fin_ret, pval, rd_S, put_S, resV, resL, List.replicate_succ, List.replicate_zero, List.set_cons_zero, List.set_cons_succ, List.getElem?_cons_zero, List.getElem?_cons_succ, Option.getD_some, Nat.reduceSub, List.cons_append, List.nil_append]
    exact gc_same rfl
  have hc := vE_0.1 h0
  simp (maxSteps := 4000000) -implicitDefEqProofs -dsimp (disch := omega) only [↓AW_skip, ↓AW_ops, ↓AW_seq, ↓AW_cond, ↓AOps_nil, ↓AOps_pu, ↓AOps_call, ↓AOps_guard, on_some, extK_same, guardB_ff, condB_f, ↓then_normal, pval, rd_S, rd_C, put_S, chkd, isAdr, bgot, AV.cells?, partA, eq_self, List.replicate_succ, List.replicate_zero, List.set_cons_zero, List.set_cons_succ, List.getElem?_cons_zero, List.getElem?_cons_succ, List.drop_zero, List.drop_succ_cons, List.take_zero, List.take_succ_cons, List.take_nil, Option.getD_some, map_c, map_n, List.length_cons, List.length_nil, Nat.reduceAdd, Nat.reduceSub, Nat.reduceLeDiff, Nat.zero_add, List.cons_append, List.nil_append, bin_neq, if_true, if_false, Bool.false_eq_true, decide_false, not_true_eq_false, h0]
  obtain ⟨v1, A1, c1, p1, q1⟩ := r_pts hx hl hc
  refine CallK.of c1 ?_
  simp (maxSteps := 4000000) -implicitDefEqProofs -dsimp (disch := omega) only [↓AW_ops, ↓AW_seq, ↓AOps_nil, ↓AOps_pu, ↓AOps_call, on_some, extK_false, ↓then_normal, pval, rd_S, put_S, chkd, isAdr, bgot, AV.cells?, partA, eq_self, List.replicate_succ, List.replicate_zero, List.set_cons_zero, List.set_cons_succ, List.getElem?_cons_zero, List.getElem?_cons_succ, List.drop_zero, List.drop_succ_cons, List.take_zero, List.take_succ_cons, List.take_nil, Option.getD_some, map_c, map_n, List.length_cons, List.length_nil, Nat.reduceAdd, Nat.reduceSub, Nat.reduceLeDiff, Nat.zero_add, List.cons_append, List.nil_append, if_true, if_false, Bool.false_eq_true]
  obtain ⟨v2, A2, c2, p2, q2⟩ := r_aw (hx.mono p1) hl hc
  have P2 := p1.trans p2
  refine CallK.of c2 ?_
  simp (maxSteps := 4000000) -implicitDefEqProofs -dsimp (disch := omega) only [↓AW_ops, ↓AW_seq, ↓AOps_nil, ↓AOps_pu, ↓AOps_call, on_some, extK_false, ↓then_normal, pval, rd_S, put_S, chkd, isAdr, bgot, AV.cells?, partA, eq_self, List.replicate_succ, List.replicate_zero, List.set_cons_zero, List.set_cons_succ, List.getElem?_cons_zero, List.getElem?_cons_succ, List.drop_zero, List.drop_succ_cons, List.take_zero, List.take_succ_cons, List.take_nil, Option.getD_some, map_c, map_n, List.length_cons, List.length_nil, Nat.reduceAdd, Nat.reduceSub, Nat.reduceLeDiff, Nat.zero_add, List.cons_append, List.nil_append, if_true, if_false, Bool.false_eq_true]
  obtain ⟨v3, A3, c3, p3, q3⟩ := r_lo (hx.mono P2) hl hc
  have P3 := P2.trans p3
  refine CallK.of c3 ?_
  simp (maxSteps := 4000000) -implicitDefEqProofs -dsimp (disch := omega) only [↓AW_ops, ↓AW_seq, ↓AOps_nil, ↓AOps_pu, ↓AOps_call, on_some, extK_false, ↓then_normal, pval, rd_S, put_S, chkd, isAdr, bgot, AV.cells?, partA, eq_self, List.replicate_succ, List.replicate_zero, List.set_cons_zero, List.set_cons_succ, List.getElem?_cons_zero, List.getElem?_cons_succ, List.drop_zero, List.drop_succ_cons, List.take_zero, List.take_succ_cons, List.take_nil, Option.getD_some, map_c, map_n, List.length_cons, List.length_nil, Nat.reduceAdd, Nat.reduceSub, Nat.reduceLeDiff, Nat.zero_add, List.cons_append, List.nil_append, if_true, if_false, Bool.false_eq_true]
  obtain ⟨v4, A4, c4, p4, q4⟩ := r_crt (hx.mono P3) hl hc
  have P4 := P3.trans p4
  refine CallK.of c4 ?_
  simp (maxSteps := 4000000) -implicitDefEqProofs -dsimp (disch := omega) only [↓AW_skip, ↓AW_ops, ↓AW_seq, ↓AW_cond, ↓AOps_nil, ↓AOps_pu, ↓AOps_call, ↓AOps_guard, on_some, extK_false, guardB_ff, condB_f, ↓then_normal, pval, rd_S, rd_C, put_S, chkd, isAdr, bgot, AV.cells?, partA, eq_self, List.replicate_succ, List.replicate_zero, List.set_cons_zero, List.set_cons_succ, List.getElem?_cons_zero, List.getElem?_cons_succ, List.drop_zero, List.take_zero, List.take_succ_cons, Option.getD_some, map_c, map_n, List.length_cons, List.length_nil, Nat.reduceAdd, Nat.reduceSub, Nat.reduceLeDiff, Nat.zero_add, List.cons_append, List.nil_append, bin_neq, if_true, if_false, Bool.false_eq_true, decide_false, not_true_eq_false]
  have hpts : pts cs e = cs.map (fun c => ((c * e : Int) : Rat) / ((max 1 cs.sum : Int) : Rat)) := rfl
  have haw : aw cs e = cs.map (fun c => mnq c (lv cs e)) := rfl
  have hlo : lo cs e = cs.map (fun c : Int => (c : Rat) - mnq c (lv cs (cs.sum - e))) := lo_eq cs e
  have o1 := pts_ok hc
  have o2 := aw_ok hc
  have o3 := lo_ok hc
  have o4 := crt_ok hc
  rw [hpts] at q1 o1
  rw [haw] at q2 o2
  rw [hlo] at q3 o3
  rw [crt_map] at q4 o4
  refine CallK.of (c_ordered (hx.mono P4) hc (((q1.mono p2).mono p3).mono p4) (up_pts hc) o1) ?_
  simp (maxSteps := 4000000) -implicitDefEqProofs -dsimp (disch := omega) only [↓AOps_pu, ↓AOps_call, ↓AOps_guard, on_some, extK_same, guardB_tt, pval, rd_S, put_S, chkd, isAdr, bgot, AV.cells?, partA, eq_self, List.replicate_succ, List.replicate_zero, List.set_cons_zero, List.set_cons_succ, List.getElem?_cons_zero, List.getElem?_cons_succ, List.drop_zero, List.take_zero, List.take_succ_cons, Option.getD_some, map_c, map_n, List.length_cons, List.length_nil, Nat.reduceAdd, Nat.reduceSub, Nat.reduceLeDiff, Nat.zero_add, List.cons_append, List.nil_append, if_true, if_false, Bool.false_eq_true]
  refine CallK.of (c_ordered (hx.mono P4) hc ((q2.mono p3).mono p4) (up_mnq _) o2) ?_
  simp (maxSteps := 4000000) -implicitDefEqProofs -dsimp (disch := omega) only [↓AOps_pu, ↓AOps_call, ↓AOps_guard, on_some, extK_same, guardB_tt, pval, rd_S, rd_C, put_S, chkd, isAdr, bgot, AV.cells?, partA, eq_self, List.replicate_succ, List.replicate_zero, List.set_cons_zero, List.set_cons_succ, List.getElem?_cons_zero, List.getElem?_cons_succ, List.drop_zero, List.take_zero, List.take_succ_cons, Option.getD_some, map_c, map_n, List.length_cons, List.length_nil, Nat.reduceAdd, Nat.reduceSub, Nat.reduceLeDiff, Nat.zero_add, List.cons_append, List.nil_append, if_true, if_false, Bool.false_eq_true]
  refine CallK.of (c_ordered (hx.mono P4) hc (q3.mono p4) (up_sub (up_mnq _)) o3) ?_
  simp (maxSteps := 4000000) -implicitDefEqProofs -dsimp (disch := omega) only [↓AOps_pu, ↓AOps_call, ↓AOps_guard, on_some, extK_same, guardB_tt, pval, rd_S, rd_C, put_S, chkd, isAdr, bgot, AV.cells?, partA, eq_self, List.replicate_succ, List.replicate_zero, List.set_cons_zero, List.set_cons_succ, List.getElem?_cons_zero, List.getElem?_cons_succ, List.drop_zero, List.take_zero, List.take_succ_cons, Option.getD_some, map_c, map_n, List.length_cons, List.length_nil, Nat.reduceAdd, Nat.reduceSub, Nat.reduceLeDiff, Nat.zero_add, List.cons_append, List.nil_append, if_true, if_false, Bool.false_eq_true]
  refine CallK.of (c_ordered (hx.mono P4) hc q4 up_crf o4) ?_
  simp (maxSteps := 4000000) -implicitDefEqProofs -dsimp (disch := omega) only [↓AOps_pu, ↓AOps_call, ↓AOps_guard, on_some, extK_same, guardB_tt, pval, rd_S, rd_C, put_S, eq_self, List.replicate_succ, List.replicate_zero, List.set_cons_zero, List.set_cons_succ, List.getElem?_cons_zero, List.getElem?_cons_succ, Option.getD_some, map_n, Nat.reduceSub, List.cons_append, List.nil_append, if_true]
  refine CallK.of (known A4) ?_
  simp (maxSteps := 4000000) -implicitDefEqProofs -dsimp (disch := omega) only [↓AW_ret, ↓AOps_nil, ↓AOps_pu, on_some, extK_same, ↓then_normal, ↓Fin_ret, pval, rd_S, rd_C, put_S, resV, resL, eq_self, List.replicate_succ, List.replicate_zero, List.set_cons_zero, List.set_cons_succ, List.getElem?_cons_zero, List.getElem?_cons_succ, Option.getD_some, Nat.reduceSub, List.cons_append, List.nil_append, if_true]
  exact gc_val P4 rfl
end
end Go.Proofs.Ytdcdjhhjlpegjaa

