/- What the law's proof rests on, part 4: for all that is said in each line. No conditions. -/
import Derived.Test.YtdcdjhhjlpegjaaCiA
namespace Go.Proofs.Ytdcdjhhjlpegjaa
open Go Go.Eng
theorem OL_gcS {α : Type} {es : Nat} {e : α → List AV} {A H : AHeap} {n : Nat} {v : AV} {xs : List α} (h : OL es e A H n v xs) (hf : ∀ x, ∀ y ∈ e x, flat y = true) : GC A v H (.sl es A.length 0 xs.length false) (A ++ [.cells true (xs.flatMap e)]) := by
  obtain ⟨he, h1, h2, h3, full, rfl⟩ := h
  have hfl : ∀ y ∈ xs.flatMap e, flat y = true := fun y hy => by
    obtain ⟨x, _, hx⟩ := List.mem_flatMap.1 hy
    exact hf x y hx
  refine gc_weak (fun ρ c => VR.unfull) ?_
  have hk := Keep.add (keep_old h1) (n := n) (o := .cells true (xs.flatMap e)) h2 (by simp; omega) h3
  simp only [renO, ren_flats _ 3 _ hfl] at hk
  exact gc_keep hk (by simp [ren])
theorem c_CloneI {xs : List Int} {v : AV} {A : AHeap} (hx : L1 A v xs) (h0 : 0 < xs.length) (hl : xs.length ≤ 1000000) :
    ACalls Try.prog 103 [v] A (.sl 1 A.length 0 xs.length false) (A ++ [.cells true (xs.flatMap e1)]) := by
  refine acalls hmix Try.func103 (by kernel_rfl) t103 1 rfl (by decide) ?_
  have hn := Ls_nn hx h0
  obtain ⟨v', n, H2, happ, ho⟩ := app_new hx (by simp [lim]; omega)
  rcases hx.inv with ⟨rfl, _⟩ | ⟨n', off, full, rw, l, rfl, _⟩
  · exact absurd rfl hn
  · dsimp only [m103]
    simp (maxSteps := 4000000) -implicitDefEqProofs -dsimp (disch := omega) only [↓AW_skip, ↓AW_ops, ↓AW_seq, ↓AW_cond, ↓AW_ret, ↓AOps_nil, ↓AOps_pu, ↓AOps_ha, on_some, extK_false, extK_app, condB_f, ↓then_normal, ↓Fin_ret, pval, hval_blds, hval_app, rd_S, rd_C, put_S, resV, resL, fillA, repl, List.replicate_succ, List.replicate_zero, List.set_cons_zero, List.set_cons_succ, List.getElem?_cons_zero, List.getElem?_cons_succ, Option.getD_some, map_n, Nat.reduceSub, List.cons_append, List.nil_append, List.replicate_zero, repl, happ]
    exact OL_gcS ho flat_e1
theorem drop_sum {ss : List Int} {i : Nat} {c : Int} (h : ss[i]? = some c) : (ss.drop i).sum = c + (ss.drop (i + 1)).sum := by
  rw [drop_at h, List.sum_cons]
theorem lev_at {ss : List Int} {i : Nat} {c left : Int} (h : ss[i]? = some c) : lev (ss.drop i) left = if left ≤ c * ((ss.length : Int) - i) then (left : Rat) / (((ss.length : Int) - i : Int) : Rat) else lev (ss.drop (i + 1)) (left - c) := by
  have hi := (List.getElem?_eq_some_iff.1 h).1
  rw [drop_at h, lev]
  have : ((ss.drop (i + 1)).length : Int) + 1 = (ss.length : Int) - i := by rw [List.length_drop]; omega
  rw [this]
section
variable {cs : List Int} {v : AV} {A : AHeap} {e : Int}
theorem s85 (hx : L1 A v cs) (hc : CE cs e) : ACalls Try.prog 85 [v, I e] A (R (lv cs e)) A := by
  refine acalls hmix Try.func85 (by kernel_rfl) t85 2 rfl (by decide) ?_
  have hl1 := hc.ok.l1
  have hl8 := hc.ok.l8
  have hs := hc.ok.sum
  have he0 := hc.e0
  have he1 := hc.e1
  dsimp only [m85]
  simp (maxSteps := 4000000) -implicitDefEqProofs -dsimp (disch := omega) only [↓AW_ops, ↓AW_seq, ↓AOps_nil, ↓AOps_pu, ↓AOps_call, on_some, ↓then_normal, pval, rd_S, rd_C, put_S, cells_agg, List.replicate_succ, List.replicate_zero, List.set_cons_zero, List.set_cons_succ, List.getElem?_cons_zero, List.getElem?_cons_succ, Option.getD_some, map_c, map_n, Nat.reduceSub, List.cons_append, List.nil_append]
  refine CallK.of (c_CloneI hx (by omega) (by omega)) ?_
  have ho := OL.new_mk e1_len A cs false
  have hsort := c_Sort ho (by omega)
  rw [set_new] at hsort
  simp (maxSteps := 4000000) -implicitDefEqProofs -dsimp (disch := omega) only [↓AW_ops, ↓AW_seq, ↓AOps_nil, ↓AOps_pu, ↓AOps_call, on_some, extK_app, ↓then_normal, pval, rd_S, put_S, List.replicate_succ, List.replicate_zero, List.set_cons_zero, List.set_cons_succ, List.getElem?_cons_zero, List.getElem?_cons_succ, Option.getD_some, map_c, map_n, Nat.reduceSub, List.cons_append, List.nil_append]
  refine CallK.of hsort ?_
  have hp := pre_app A [AObj.cells true ((srt cs).flatMap e1)]
  have hsl := srt_len cs
  have hsp := srt_perm cs
  have ho2 := OL.new_mk e1_len A (srt cs) false
  rw [hsl] at ho2
  have hq := ho2.ls
  have hss : (srt cs).sum = cs.sum := perm_isum hsp
  have hsc : ∀ x ∈ srt cs, 0 ≤ x ∧ x ≤ 1000 := fun x hx => hc.ok.c x (hsp.mem_iff.1 hx)
  have hlv : lv cs e = lev (srt cs) e := rfl
  rw [hlv]
  have hsle : ((srt cs).length : Int) = cs.length := by omega
  generalize srt cs = ss at *
  generalize AV.sl 1 A.length 0 cs.length false = w at *
  generalize A ++ [AObj.cells true (ss.flatMap e1)] = A1 at *
  simp (maxSteps := 4000000) -implicitDefEqProofs -dsimp (disch := omega) only [↓AW_ops, ↓AW_seq, ↓AW_block, ↓AOps_nil, ↓AOps_pu, on_some, extK_false, ↓then_normal, pval, rd_S, rd_C, put_S, ↓AW_toLoop, List.replicate_succ, List.replicate_zero, List.set_cons_zero, List.set_cons_succ, List.getElem?_cons_zero, List.getElem?_cons_succ, Option.getD_some, Nat.reduceSub, List.cons_append, List.nil_append, hq.len, hsle]
  refine LoopK.by 41 (fun x : Nat × Int => x.1 < ss.length ∧ (0 ≤ x.2 ∧ x.2 ≤ 8000) ∧ x.2 ≤ (ss.drop x.1).sum ∧ lev ss e = lev (ss.drop x.1) x.2) (fun x => [(0, v), (4, .agg [I 0, I 0]), (5, w), (6, I x.2), (15, w), (16, I cs.length), (17, I x.1)]) (fun _ => A1) (fun x => ss.length - x.1) (0, e) ⟨by simp only; omega, by simp only; omega, by simp only [List.drop_zero]; omega, rfl⟩ rfl (by simp [Has, rd_s]) rfl ?_
  rintro ⟨i, left⟩ ⟨hlt, hle, hls, hle2⟩
  simp only at hlt hle hls hle2
  have hlt' : (i : Int) < cs.length := by omega
  obtain ⟨c, hz⟩ : ∃ z, ss[i]? = some z := ⟨_, List.getElem?_eq_getElem hlt⟩
  have hzc := hsc c (List.mem_of_getElem? hz)
  rw [lev_at hz] at hle2
  rw [drop_sum hz] at hls
  rw [hsle] at hle2
  have m1 := Int.mul_le_mul hzc.2 (show (cs.length : Int) - i ≤ 8 by omega) (by omega) (by omega : (0 : Int) ≤ 1000)
  have m2 := Int.mul_nonneg hzc.1 (show 0 ≤ (cs.length : Int) - i by omega)
  by_cases h1 : left ≤ c * ((cs.length : Int) - i)
  · rw [if_pos h1] at hle2
    simp (maxSteps := 4000000) -implicitDefEqProofs -dsimp (disch := omega) only [↓AW_skip, ↓AW_ops, ↓AW_seq, ↓AW_cond, ↓AW_block, ↓AOps_nil, ↓AOps_pu, ↓AOps_ld, ↓AOps_call, on_some, condB_t, ↓then_normal, pval, lval, rd_S, put_S, partA, eq_self, mk, List.foldl_cons, List.foldl_nil, List.replicate_succ, List.replicate_zero, List.set_cons_zero, List.set_cons_succ, List.getElem?_cons_zero, List.getElem?_cons_succ, List.drop_zero, List.take_succ_cons, List.take_nil, Option.getD_some, map_c, map_n, List.length_cons, List.length_nil, Nat.reduceLeDiff, Nat.zero_add, bin_sub, bin_mul, bin_lss, bin_geq, w64, if_true, if_false, Bool.false_eq_true, decide_true, Go.Eng.e1, hlt', hq.len, hq.idx hlt, hq.ld0 hz 1 false (by decide), hsle, h1]
    refine CallK.of (s61 (a := left) (b := (cs.length : Int) - i) _ ⟨by omega, by omega⟩ (by omega) (by omega)) ?_
    simp (maxSteps := 4000000) -implicitDefEqProofs -dsimp (disch := omega) only [↓AW_ret, ↓AOps_nil, ↓AOps_pu, on_some, extK_same, ↓then_normal, ↓then_ret, ↓inBlock_ret, ↓Fin_ret, pval, rd_S, put_S, resV, resL, chkd, bput, bgot, cells_agg, splice, partA, eq_self, mk, List.foldl_cons, List.foldl_nil, List.replicate_succ, List.replicate_zero, List.set_cons_zero, List.set_cons_succ, List.getElem?_cons_zero, List.getElem?_cons_succ, List.drop_zero, List.drop_succ_cons, List.drop_nil, List.take_zero, List.take_succ_cons, List.take_nil, Option.getD_some, List.length_cons, List.length_nil, Nat.reduceAdd, Nat.reduceLeDiff, Nat.reduceEqDiff, Nat.zero_add, List.nil_append, List.append_nil, if_true, if_false, ne_eq, not_true_eq_false, R]
    refine gc_val hp ?_
    rw [hle2]
    rfl
  · rw [if_neg h1] at hle2
    have hcl : c ≤ left := by
      have h2 : c * ((cs.length : Int) - i) = c + c * ((cs.length : Int) - i - 1) := by rw [Int.mul_sub c ((cs.length : Int) - i) 1, Int.mul_one]; omega
      have := Int.mul_nonneg hzc.1 (show 0 ≤ (cs.length : Int) - i - 1 by omega)
      omega
    have hlt2 : i + 1 < ss.length := by
      refine Nat.lt_of_not_le (fun hge => ?_)
      have h0 : ss.drop (i + 1) = [] := List.drop_of_length_le hge
      rw [h0, List.sum_nil] at hls
      have : (cs.length : Int) - i = 1 := by omega
      rw [this, Int.mul_one] at h1
      omega
    simp (maxSteps := 4000000) -implicitDefEqProofs -dsimp (disch := omega) only [↓AW_skip, ↓AW_ops, ↓AW_seq, ↓AW_cond, ↓AW_block, ↓AOps_nil, ↓AOps_pu, ↓AOps_ld, on_some, condB_t, condB_f, ↓then_normal, ↓inBlock_normal, pval, lval, rd_S, rd_C, put_S, partA, eq_self, mk, List.foldl_cons, List.foldl_nil, List.replicate_succ, List.replicate_zero, List.set_cons_zero, List.set_cons_succ, List.getElem?_cons_zero, List.getElem?_cons_succ, List.drop_zero, List.take_succ_cons, List.take_nil, Option.getD_some, List.length_cons, List.length_nil, Nat.reduceAdd, Nat.reduceLeDiff, Nat.zero_add, bin_add, bin_sub, bin_mul, bin_lss, bin_geq, w64, if_true, if_false, Bool.false_eq_true, decide_true, decide_false, Go.Eng.e1, true_and, hlt', hq.len, hq.idx hlt, hq.ld0 hz 1 false (by decide), hsle, h1]
    exact ⟨(i + 1, left - c), ⟨hlt2, by simp only; omega, by simp only; omega, hle2⟩, by simp [Has, rd_s], by simp only; omega⟩
theorem capL_len (cs : List Int) (l : Rat) : ((capL cs l).map rp).length = cs.length := by simp [capL]
theorem capL_take {l : Rat} {i : Nat} {c : Int} (h : cs[i]? = some c) : ((capL cs l).map rp).take (i + 1) = ((capL cs l).map rp).take i ++ [rp (mnq c l)] := by
  unfold capL
  rw [List.take_add_one, List.getElem?_map, List.getElem?_map, h]
  rfl
theorem s88 (hx : L1 A v cs) (hok : OK cs) {l : Rat} (hl : SQ l) : ACalls Try.prog 88 [v, R l] A (outV 2 A ((capL cs l).map rp).length) (outH A (((capL cs l).map rp).flatMap e2) ((capL cs l).map rp).length) := by
  refine acalls hmix Try.func88 (by kernel_rfl) t88 2 rfl (by decide) ?_
  have hlen := capL_len cs l
  have hl8 := hok.l8
  have hdp := den_pos l
  have hd := hl.d
  have hn := hl.num
  dsimp only [m88]
  simp (maxSteps := 4000000) -implicitDefEqProofs -dsimp (disch := omega) only [↓AW_ops, ↓AW_seq, ↓AW_block, ↓AOps_nil, ↓AOps_pu, on_some, ↓then_normal, pval, rd_S, rd_C, put_S, ↓AW_toLoop, AV.cells?, List.replicate_succ, List.replicate_zero, List.set_cons_zero, List.set_cons_succ, List.getElem?_cons_zero, List.getElem?_cons_succ, Option.getD_some, Nat.reduceSub, List.cons_append, List.nil_append, hx.len]
  refine LoopK.by 32 (fun x : Nat × AV × AHeap => x.1 ≤ cs.length ∧ AccL 2 e2 A x.2.2 x.2.1 (((capL cs l).map rp).take x.1)) (fun x => [(3, .agg [I l.num, I (l.den : Int)]), (5, x.2.1), (8, v), (9, I cs.length), (10, I x.1)]) (fun x => x.2.2) (fun x => cs.length - x.1) (0, .nilS, A) ⟨by simp only; omega, AccL.nil (List.prefix_refl _)⟩ rfl (by simp [Has, rd_s]) rfl ?_
  rintro ⟨i, w, A1⟩ ⟨hi, hu⟩
  simp only at hi hu
  have hx1 := hx.mono hu.pre
  by_cases hlt : i < cs.length
  · obtain ⟨z, hz⟩ : ∃ z, cs[i]? = some z := ⟨_, List.getElem?_eq_getElem hlt⟩
    have hlt' : (i : Int) < cs.length := by omega
    have hzc := hok.c z (List.mem_of_getElem? hz)
    have m1 := Int.mul_le_mul hzc.2 hd (by omega) (by omega : (0 : Int) ≤ 1000)
    have m2 := Int.mul_nonneg hzc.1 (show 0 ≤ (l.den : Int) by omega)
    obtain ⟨u3, A3, happ, hu3⟩ := hu.push e2_len (rp (mnq z l)) (by rw [List.length_take]; simp [lim]; omega)
    rw [← capL_take hz] at hu3
    simp only [e2_rp] at happ
    by_cases h1 : z * (l.den : Int) < l.num
    · have hm : mnq z l = (z : Rat) := mnq_c (Rat.le_of_lt (mnq_iff.1 h1))
      rw [hm] at happ
      have hz1 : ((z : Int) : Rat) / ((1 : Int) : Rat) = (z : Rat) := by
        have := div_mul_same (a := (z : Rat)) (n := 1) (by omega)
        rw [int1, Rat.one_mul] at this
        exact this
      simp (maxSteps := 4000000) -implicitDefEqProofs -dsimp (disch := omega) only [↓AW_skip, ↓AW_ops, ↓AW_seq, ↓AW_cond, ↓AW_block, ↓AOps_nil, ↓AOps_pu, ↓AOps_ld, ↓AOps_call, on_some, condB_t, ↓then_normal, pval, lval, rd_S, rd_C, put_S, chkd, isAdr, bgot, AV.cells?, partA, eq_self, mk, List.foldl_cons, List.foldl_nil, List.replicate_succ, List.replicate_zero, List.set_cons_zero, List.set_cons_succ, List.getElem?_cons_zero, List.getElem?_cons_succ, List.drop_zero, List.drop_succ_cons, List.take_zero, List.take_succ_cons, List.take_nil, Option.getD_some, map_c, map_n, List.length_cons, List.length_nil, Nat.reduceAdd, Nat.reduceLeDiff, Nat.zero_add, bin_mul, bin_lss, w64, if_true, if_false, Bool.false_eq_true, decide_true, Go.Eng.e1, hlt', hx1.idx hlt, hx1.ld0 hz 1 false (by decide), h1]
      refine CallK.of (s61 (a := z) (b := 1) _ ⟨by omega, by omega⟩ (by omega) (by omega)) ?_
      rw [hz1]
      simp (maxSteps := 4000000) -implicitDefEqProofs -dsimp (disch := omega) only [↓AW_ops, ↓AOps_nil, ↓AOps_pu, ↓AOps_ha, on_some, extK_false, extK_app, extK_same, ↓then_normal, ↓inBlock_normal, pval, hval, rd_S, rd_C, put_S, AV.cells?, splice, fillA, repl, eq_self, mk, List.foldl_cons, List.foldl_nil, List.replicate_succ, List.replicate_zero, List.set_cons_zero, List.set_cons_succ, List.getElem?_cons_zero, List.getElem?_cons_succ, List.drop_succ_cons, List.drop_nil, List.take_zero, Option.getD_some, map_c, map_n, List.length_cons, List.length_nil, Nat.reduceAdd, Nat.reduceLeDiff, Nat.zero_add, List.nil_append, List.append_nil, bin_add, w64, if_true, true_and, and_true, R, happ]
      exact ⟨(i + 1, u3, A3), ⟨hlt, hu3⟩, by simp [Has, rd_s], rfl, by simp only; omega⟩
    · have hm : mnq z l = l := mnq_l (Rat.not_lt.1 (fun h => h1 (mnq_iff.2 h)))
      rw [hm] at happ
      simp (maxSteps := 4000000) -implicitDefEqProofs -dsimp (disch := omega) only [↓AW_skip, ↓AW_ops, ↓AW_seq, ↓AW_cond, ↓AW_block, ↓AOps_nil, ↓AOps_pu, ↓AOps_ld, ↓AOps_ha, on_some, extK_false, extK_app, condB_t, condB_f, ↓then_normal, ↓inBlock_normal, pval, lval, hval, rd_S, rd_C, put_S, chkd, isAdr, bgot, AV.cells?, splice, partA, fillA, repl, eq_self, mk, List.foldl_cons, List.foldl_nil, List.replicate_succ, List.replicate_zero, List.set_cons_zero, List.set_cons_succ, List.getElem?_cons_zero, List.getElem?_cons_succ, List.drop_zero, List.drop_succ_cons, List.drop_nil, List.take_zero, List.take_succ_cons, List.take_nil, Option.getD_some, map_c, map_n, List.length_cons, List.length_nil, Nat.reduceAdd, Nat.reduceLeDiff, Nat.reduceEqDiff, Nat.zero_add, List.nil_append, List.append_nil, bin_add, bin_mul, bin_lss, w64, if_true, if_false, Bool.false_eq_true, decide_true, decide_false, Go.Eng.e1, true_and, and_true, hlt', hx1.idx hlt, hx1.ld0 hz 1 false (by decide), h1, happ]
      exact ⟨(i + 1, u3, A3), ⟨hlt, hu3⟩, by simp [Has, rd_s], rfl, by simp only; omega⟩
  · have hlt' : ¬ ((i : Int) < cs.length) := by omega
    simp (maxSteps := 4000000) -implicitDefEqProofs -dsimp (disch := omega) only [↓AW_ops, ↓AW_seq, ↓AW_cond, ↓AW_exit, ↓AW_ret, ↓AOps_nil, ↓AOps_pu, on_some, condB_f, ↓then_normal, ↓then_exit, ↓inBlock_exit, ↓Fin_ret, pval, rd_S, put_S, resV, resL, eq_self, mk, List.foldl_cons, List.foldl_nil, List.replicate_succ, List.replicate_zero, List.set_cons_zero, List.set_cons_succ, List.getElem?_cons_zero, List.getElem?_cons_succ, Option.getD_some, bin_lss, if_true, decide_false, hlt']
    rw [List.take_of_length_le (by omega)] at hu
    exact hu.gc flat_e2
/-- Equal awards. -/
def aw (cs : List Int) (e : Int) : List Rat := capL cs (lv cs e)
/-- Equal losses. -/
def lo (cs : List Int) (e : Int) : List Rat := lsL cs ((aw cs (cs.sum - e)).map rp)
def hq (q : Rat) : Rat := (q.num : Rat) / ((2 * (q.den : Int) : Int) : Rat)
theorem aw_len (cs : List Int) (e : Int) : (aw cs e).length = cs.length := by simp [aw, capL]
theorem lo_len (cs : List Int) (e : Int) : (lo cs e).length = cs.length := by simp [lo, lsL, aw, capL]
theorem aw_sq (hc : CE cs e) : ∀ q ∈ aw cs e, SQ q := by
  intro q hq
  obtain ⟨c, hcm, rfl⟩ := List.mem_map.1 hq
  exact SQ.mnq (hc.ok.c c hcm) (lv_sq hc)
theorem CE.sub (hc : CE cs e) : CE cs (cs.sum - e) := ⟨hc.ok, by have := hc.e1; omega, by have := hc.e0; omega⟩
theorem lsq_eq (c : Int) (q : Rat) : lsq c (rp q) = (c : Rat) - q := by
  unfold lsq rp
  simp only
  have hdp := den_pos q
  have hne := cast_pos hdp
  have e := R_self q
  have hq : q * ((q.den : Int) : Rat) = ((q.num : Int) : Rat) := by
    conv => lhs; lhs; rw [e]
    exact Rat.div_mul_cancel (Ne.symm (Rat.ne_of_lt hne))
  have h1 : ((c * (q.den : Int) - q.num : Int) : Rat) = ((c : Rat) - q) * ((q.den : Int) : Rat) := by
    rw [Rat.intCast_sub, Rat.intCast_mul, ← hq]
    grind
  rw [h1, Rat.div_def, Rat.mul_assoc, Rat.mul_inv_cancel _ (Ne.symm (Rat.ne_of_lt hne)), Rat.mul_one]
theorem lo_eq (cs : List Int) (e : Int) : lo cs e = cs.map (fun c : Int => (c : Rat) - mnq c (lv cs (cs.sum - e))) := by
  unfold lo lsL aw capL
  rw [List.map_map, zip_self, List.map_map]
  refine List.map_congr_left (fun c _ => ?_)
  exact lsq_eq _ _
theorem SQ.sub {c : Int} {q : Rat} (hc : 0 ≤ c ∧ c ≤ 1000) (hq : SQ q) (h : q ≤ (c : Rat)) : SQ ((c : Rat) - q) := by
  have h1 : (c : Rat) ≤ ((1000 : Int) : Rat) := Rat.intCast_le_intCast.2 hc.2
  have h0 := hq.q0
  refine ⟨by grind, by grind, ?_⟩
  have hd : (((c : Rat) - q).den : Int) ∣ (q.den : Int) := by
    rw [← lsq_eq c q]
    exact div_den (den_pos q)
  have := Int.le_of_dvd (den_pos q) hd
  have := hq.d
  omega
theorem s87 (hx : L1 A v cs) (hc : CE cs e) : ACalls Try.prog 87 [v, I e] A (outV 2 A ((aw cs e).map rp).length) (outH A (((aw cs e).map rp).flatMap e2) ((aw cs e).map rp).length) := by
  refine acalls hmix Try.func87 (by kernel_rfl) t87 2 rfl (by decide) ?_
  dsimp only [m87]
  simp (maxSteps := 4000000) -implicitDefEqProofs -dsimp (disch := omega) only [↓AW_ops, ↓AW_seq, ↓AOps_nil, ↓AOps_pu, ↓AOps_call, on_some, ↓then_normal, pval, rd_S, rd_C, put_S, List.replicate_succ, List.replicate_zero, List.set_cons_zero, List.set_cons_succ, List.getElem?_cons_zero, List.getElem?_cons_succ, Option.getD_some, map_c, map_n, Nat.reduceSub, List.cons_append, List.nil_append]
  refine CallK.of (s85 hx hc) ?_
  simp (maxSteps := 4000000) -implicitDefEqProofs -dsimp (disch := omega) only [↓AOps_call, extK_same, rd_S, put_S, List.replicate_succ, List.replicate_zero, List.set_cons_zero, List.set_cons_succ, List.getElem?_cons_zero, List.getElem?_cons_succ, Option.getD_some, map_c, map_n, Nat.reduceSub, List.cons_append, List.nil_append, R]
  refine CallK.of (s88 hx hc.ok (lv_sq hc)) ?_
  simp (maxSteps := 4000000) -implicitDefEqProofs -dsimp (disch := omega) only [↓AW_ret, ↓AOps_nil, ↓AOps_pu, on_some, extK_false, ↓then_normal, ↓Fin_ret, pval, rd_S, put_S, resV, resL, List.replicate_succ, List.replicate_zero, List.set_cons_zero, List.set_cons_succ, List.getElem?_cons_zero, List.getElem?_cons_succ, Option.getD_some, Nat.reduceSub, List.cons_append, List.nil_append]
  exact gc_all
theorem s89 (hx : L1 A v cs) (hc : CE cs e) {n : Nat} (hn : ldA 1 false (.ptr n 0) A = some (.fn 87 [])) : ACalls Try.prog 89 [v, I e, .ptr n 0] A (outV 2 A ((lo cs e).map rp).length) (outH A (((lo cs e).map rp).flatMap e2) ((lo cs e).map rp).length) := by
  refine acalls hmix Try.func89 (by kernel_rfl) t89 3 rfl (by decide) ?_
  have hs := hc.ok.sum
  have he0 := hc.e0
  have he1 := hc.e1
  have hl8 := hc.ok.l8
  dsimp only [m89]
  simp (maxSteps := 4000000) -implicitDefEqProofs -dsimp (disch := omega) only [↓AW_ops, ↓AW_seq, ↓AOps_nil, ↓AOps_pu, ↓AOps_ld, ↓AOps_call, on_some, ↓then_normal, pval, lval, rd_S, rd_C, put_S, List.replicate_succ, List.replicate_zero, List.set_cons_zero, List.set_cons_succ, List.getElem?_cons_zero, List.getElem?_cons_succ, Option.getD_some, map_c, map_n, Nat.reduceSub, List.cons_append, List.nil_append, hn]
  refine CallK.of (c_total hx (by omega) hc.ok.bd) ?_
  simp (maxSteps := 4000000) -implicitDefEqProofs -dsimp (disch := omega) only [↓AOps_pu, ↓AOps_callv, on_some, extK_same, CallF_fn, pval, rd_S, put_S, List.replicate_succ, List.replicate_zero, List.set_cons_zero, List.set_cons_succ, List.getElem?_cons_zero, List.getElem?_cons_succ, Option.getD_some, map_c, map_n, Nat.reduceSub, List.cons_append, List.nil_append, List.append_nil, bin_sub, w64]
  refine CallK.of (s87 hx hc.sub) ?_
  have hp1 := pre_out A (((aw cs (cs.sum - e)).map rp).flatMap e2) ((aw cs (cs.sum - e)).map rp).length
  have hq1 := Ls_out A e2_len ((aw cs (cs.sum - e)).map rp)
  generalize outV 2 A ((aw cs (cs.sum - e)).map rp).length = w at *
  generalize outH A (((aw cs (cs.sum - e)).map rp).flatMap e2) ((aw cs (cs.sum - e)).map rp).length = A1 at *
  simp (maxSteps := 4000000) -implicitDefEqProofs -dsimp (disch := omega) only [↓AOps_call, extK_false, rd_S, put_S, List.replicate_succ, List.replicate_zero, List.set_cons_zero, List.set_cons_succ, List.getElem?_cons_zero, List.getElem?_cons_succ, Option.getD_some, map_c, map_n, Nat.reduceSub, List.cons_append, List.nil_append]
  refine CallK.of (s75 (hx.mono hp1) hq1 hc.ok (by simp [aw_len]) (fun r hr => ?_)) ?_
  · obtain ⟨q, hq, rfl⟩ := List.mem_map.1 hr
    exact (aw_sq hc.sub q hq).bd
  · have hlo : lsL cs ((aw cs (cs.sum - e)).map rp) = lo cs e := rfl
    rw [hlo]
    simp (maxSteps := 4000000) -implicitDefEqProofs -dsimp (disch := omega) only [↓AW_ret, ↓AOps_nil, ↓AOps_pu, on_some, extK_false, ↓then_normal, ↓Fin_ret, pval, rd_S, put_S, resV, resL, List.replicate_succ, List.replicate_zero, List.set_cons_zero, List.set_cons_succ, List.getElem?_cons_zero, List.getElem?_cons_succ, Option.getD_some, Nat.reduceSub, List.cons_append, List.nil_append]
    exact (AccL_out hp1 e2_len _).gc flat_e2
theorem map_take {α β : Type} (f : α → β) {xs : List α} {i : Nat} {x : α} (h : xs[i]? = some x) : (xs.map f).take (i + 1) = (xs.map f).take i ++ [f x] := by
  rw [List.take_add_one, List.getElem?_map, h]
  rfl
theorem s55a (hx : L1 A v cs) (hl : cs.length ≤ 1000000) : ACalls Try.prog 55 [I 1, v, I e] A (.tuple [outV 2 A (byO cs e (aw cs e)).length, I (vE cs e)]) (outH A ((byO cs e (aw cs e)).flatMap e2) (byO cs e (aw cs e)).length) := by
  refine acalls hmix Try.func55 (by kernel_rfl) t55 3 rfl (by decide) ?_
  dsimp only [m55]
  simp (maxSteps := 4000000) -implicitDefEqProofs -dsimp (disch := omega) only [↓AW_ops, ↓AW_seq, ↓AOps_nil, ↓AOps_pu, ↓AOps_call, on_some, ↓then_normal, pval, rd_S, rd_C, put_S, List.replicate_succ, List.replicate_zero, List.set_cons_zero, List.set_cons_succ, List.getElem?_cons_zero, List.getElem?_cons_succ, Option.getD_some, map_c, map_n, Nat.reduceSub, List.cons_append, List.nil_append]
  refine CallK.of (s16 hx hl e) ?_
  by_cases h0 : vE cs e = 0
  · have hO : byO cs e (aw cs e) = (aw cs e).map rp := if_pos h0
    have hc := vE_0.1 h0
    rw [hO, h0]
    simp (maxSteps := 4000000) -implicitDefEqProofs -dsimp (disch := omega) only [↓AW_skip, ↓AW_ops, ↓AW_seq, ↓AW_cond, ↓AOps_nil, ↓AOps_pu, ↓AOps_call, on_some, extK_same, condB_f, ↓then_normal, pval, rd_S, rd_C, put_S, eq_self, List.replicate_succ, List.replicate_zero, List.set_cons_zero, List.set_cons_succ, List.getElem?_cons_zero, List.getElem?_cons_succ, Option.getD_some, map_n, Nat.reduceSub, List.cons_append, List.nil_append, bin_neq, decide_false, not_true_eq_false]
    refine CallK.of (s79 A) ?_
    simp (maxSteps := 4000000) -implicitDefEqProofs -dsimp (disch := omega) only [↓AOps_pu, ↓AOps_callv, on_some, extK_false, CallF_fn, pval, rd_S, put_S, partA, eq_self, List.replicate_succ, List.replicate_zero, List.set_cons_zero, List.set_cons_succ, List.getElem?_cons_zero, List.getElem?_cons_succ, List.drop_zero, List.drop_succ_cons, List.take_zero, List.take_succ_cons, List.take_nil, Option.getD_some, map_c, map_n, List.length_cons, List.length_nil, Nat.reduceAdd, Nat.reduceSub, Nat.reduceLeDiff, Nat.reduceMul, Nat.zero_add, List.cons_append, List.nil_append, List.append_nil, if_true, if_false, Bool.false_eq_true, and_true, Int.reduceLT, Int.reduceLE, rulesV, c4, tn1]
    refine CallK.of (s87 (hx.mono (rules_pre A)) hc) ?_
    simp (maxSteps := 4000000) -implicitDefEqProofs -dsimp (disch := omega) only [↓AW_ret, ↓AOps_nil, ↓AOps_pu, on_some, extK_false, ↓then_normal, ↓Fin_ret, pval, rd_S, rd_C, put_S, resV, resL, List.replicate_succ, List.replicate_zero, List.set_cons_zero, List.set_cons_succ, List.getElem?_cons_zero, List.getElem?_cons_succ, Option.getD_some, Nat.reduceSub, List.cons_append, List.nil_append]
    exact (AccL_out (rules_pre A) e2_len _).gc2 flat_e2 (I 0) rfl
  · have hO : byO cs e (aw cs e) = [] := if_neg h0
    rw [hO]
    simp (maxSteps := 4000000) -implicitDefEqProofs -dsimp (disch := omega) only [↓AW_ops, ↓AW_seq, ↓AW_cond, ↓AW_ret, ↓AOps_nil, ↓AOps_pu, on_some, extK_same, condB_t, ↓then_normal, ↓then_ret, ↓Fin_ret, pval, rd_S, rd_C, put_S, resV, resL, List.replicate_succ, List.replicate_zero, List.set_cons_zero, List.set_cons_succ, List.getElem?_cons_zero, List.getElem?_cons_succ, Option.getD_some, List.length_nil, Nat.reduceSub, List.cons_append, List.nil_append, bin_neq, decide_true, not_false_eq_true, h0]
    exact gc_same_all rfl rfl
theorem s55l (hx : L1 A v cs) (hl : cs.length ≤ 1000000) : ACalls Try.prog 55 [I 2, v, I e] A (.tuple [outV 2 A (byO cs e (lo cs e)).length, I (vE cs e)]) (outH A ((byO cs e (lo cs e)).flatMap e2) (byO cs e (lo cs e)).length) := by
  refine acalls hmix Try.func55 (by kernel_rfl) t55 3 rfl (by decide) ?_
  dsimp only [m55]
  simp (maxSteps := 4000000) -implicitDefEqProofs -dsimp (disch := omega) only [↓AW_ops, ↓AW_seq, ↓AOps_nil, ↓AOps_pu, ↓AOps_call, on_some, ↓then_normal, pval, rd_S, rd_C, put_S, List.replicate_succ, List.replicate_zero, List.set_cons_zero, List.set_cons_succ, List.getElem?_cons_zero, List.getElem?_cons_succ, Option.getD_some, map_c, map_n, Nat.reduceSub, List.cons_append, List.nil_append]
  refine CallK.of (s16 hx hl e) ?_
  by_cases h0 : vE cs e = 0
  · have hO : byO cs e (lo cs e) = (lo cs e).map rp := if_pos h0
    have hc := vE_0.1 h0
    rw [hO, h0]
    simp (maxSteps := 4000000) -implicitDefEqProofs -dsimp (disch := omega) only [↓AW_skip, ↓AW_ops, ↓AW_seq, ↓AW_cond, ↓AOps_nil, ↓AOps_pu, ↓AOps_call, on_some, extK_same, condB_f, ↓then_normal, pval, rd_S, rd_C, put_S, eq_self, List.replicate_succ, List.replicate_zero, List.set_cons_zero, List.set_cons_succ, List.getElem?_cons_zero, List.getElem?_cons_succ, Option.getD_some, map_n, Nat.reduceSub, List.cons_append, List.nil_append, bin_neq, decide_false, not_true_eq_false]
    refine CallK.of (s79 A) ?_
    simp (maxSteps := 4000000) -implicitDefEqProofs -dsimp (disch := omega) only [↓AOps_pu, ↓AOps_callv, on_some, extK_false, CallF_fn, pval, rd_S, put_S, partA, eq_self, List.replicate_succ, List.replicate_zero, List.set_cons_zero, List.set_cons_succ, List.getElem?_cons_zero, List.getElem?_cons_succ, List.drop_zero, List.drop_succ_cons, List.take_zero, List.take_succ_cons, List.take_nil, Option.getD_some, map_c, map_n, List.length_cons, List.length_nil, Nat.reduceAdd, Nat.reduceSub, Nat.reduceLeDiff, Nat.reduceMul, Nat.zero_add, List.cons_append, List.nil_append, if_true, if_false, Bool.false_eq_true, and_true, Int.reduceLT, Int.reduceLE, rulesV, c4, tn2]
    refine CallK.of (s89 (hx.mono (rules_pre A)) hc (rules_l1 A)) ?_
    simp (maxSteps := 4000000) -implicitDefEqProofs -dsimp (disch := omega) only [↓AW_ret, ↓AOps_nil, ↓AOps_pu, on_some, extK_false, ↓then_normal, ↓Fin_ret, pval, rd_S, rd_C, put_S, resV, resL, List.replicate_succ, List.replicate_zero, List.set_cons_zero, List.set_cons_succ, List.getElem?_cons_zero, List.getElem?_cons_succ, Option.getD_some, Nat.reduceSub, List.cons_append, List.nil_append]
    exact (AccL_out (rules_pre A) e2_len _).gc2 flat_e2 (I 0) rfl
  · have hO : byO cs e (lo cs e) = [] := if_neg h0
    rw [hO]
    simp (maxSteps := 4000000) -implicitDefEqProofs -dsimp (disch := omega) only [↓AW_ops, ↓AW_seq, ↓AW_cond, ↓AW_ret, ↓AOps_nil, ↓AOps_pu, on_some, extK_same, condB_t, ↓then_normal, ↓then_ret, ↓Fin_ret, pval, rd_S, rd_C, put_S, resV, resL, List.replicate_succ, List.replicate_zero, List.set_cons_zero, List.set_cons_succ, List.getElem?_cons_zero, List.getElem?_cons_succ, Option.getD_some, List.length_nil, Nat.reduceSub, List.cons_append, List.nil_append, bin_neq, decide_true, not_false_eq_true, h0]
    exact gc_same_all rfl rfl
theorem s19 (hx : L1 A v cs) (hl : cs.length ≤ 1000000) : ACalls Try.prog 19 [v, I e] A (.tuple [outV 2 A (byO cs e (aw cs e)).length, I (vE cs e)]) (outH A ((byO cs e (aw cs e)).flatMap e2) (byO cs e (aw cs e)).length) := by
  refine acalls hmix Try.func19 (by kernel_rfl) t19 2 rfl (by decide) ?_
  dsimp only [m19]
  simp (maxSteps := 4000000) -implicitDefEqProofs -dsimp (disch := omega) only [↓AW_ops, ↓AW_seq, ↓AOps_nil, ↓AOps_pu, ↓AOps_call, on_some, ↓then_normal, pval, rd_S, rd_C, put_S, List.replicate_succ, List.replicate_zero, List.set_cons_zero, List.set_cons_succ, List.getElem?_cons_zero, List.getElem?_cons_succ, Option.getD_some, map_c, map_n, Nat.reduceSub, List.cons_append, List.nil_append]
  refine CallK.of (s55a hx hl) ?_
  simp (maxSteps := 4000000) -implicitDefEqProofs -dsimp (disch := omega) only [↓AW_ret, ↓AOps_nil, ↓AOps_pu, on_some, extK_false, ↓then_normal, ↓Fin_ret, pval, rd_S, put_S, resV, resL, List.replicate_succ, List.replicate_zero, List.set_cons_zero, List.set_cons_succ, List.getElem?_cons_zero, List.getElem?_cons_succ, Option.getD_some, Nat.reduceSub, List.cons_append, List.nil_append]
  exact gc_all
theorem s20 (hx : L1 A v cs) (hl : cs.length ≤ 1000000) : ACalls Try.prog 20 [v, I e] A (.tuple [outV 2 A (byO cs e (lo cs e)).length, I (vE cs e)]) (outH A ((byO cs e (lo cs e)).flatMap e2) (byO cs e (lo cs e)).length) := by
  refine acalls hmix Try.func20 (by kernel_rfl) t20 2 rfl (by decide) ?_
  dsimp only [m20]
  simp (maxSteps := 4000000) -implicitDefEqProofs -dsimp (disch := omega) only [↓AW_ops, ↓AW_seq, ↓AOps_nil, ↓AOps_pu, ↓AOps_call, on_some, ↓then_normal, pval, rd_S, rd_C, put_S, List.replicate_succ, List.replicate_zero, List.set_cons_zero, List.set_cons_succ, List.getElem?_cons_zero, List.getElem?_cons_succ, Option.getD_some, map_c, map_n, Nat.reduceSub, List.cons_append, List.nil_append]
  refine CallK.of (s55l hx hl) ?_
  simp (maxSteps := 4000000) -implicitDefEqProofs -dsimp (disch := omega) only [↓AW_ret, ↓AOps_nil, ↓AOps_pu, on_some, extK_false, ↓then_normal, ↓Fin_ret, pval, rd_S, put_S, resV, resL, List.replicate_succ, List.replicate_zero, List.set_cons_zero, List.set_cons_succ, List.getElem?_cons_zero, List.getElem?_cons_succ, Option.getD_some, Nat.reduceSub, List.cons_append, List.nil_append]
  exact gc_all
end
end Go.Proofs.Ytdcdjhhjlpegjaa

namespace Go.Proofs.Ytdcdjhhjlpegjaa
open Go Go.Eng
/-- The greatest number below one, or 0. -/
structure SM (c : Int) (xs : List Int) (s : Int) : Prop where
  s0 : 0 ≤ s
  s1 : s ≤ 1000
  all : ∀ d ∈ xs, d < c → d ≤ s
  is : s = 0 ∨ (s ∈ xs ∧ s < c)
section
variable {cs : List Int} {v : AV} {A : AHeap} {e : Int}
end
end Go.Proofs.Ytdcdjhhjlpegjaa

namespace Go.Proofs.Ytdcdjhhjlpegjaa
open Go Go.Eng
theorem cancel {a b d : Rat} (hd : 0 < d) (h : a * d = b * d) : a = b :=
  Rat.le_antisymm (rat_le_of_mul hd (by rw [h]; exact Rat.le_refl)) (rat_le_of_mul hd (by rw [h]; exact Rat.le_refl))
theorem mnq_den {cs : List Int} {e : Int} {k : Int} (hd : ((lv cs e).den : Int) ∣ k) (c : Int) : ((mnq c (lv cs e)).den : Int) ∣ k := by
  unfold mnq
  split
  · rw [Rat.den_intCast]; exact Int.one_dvd _
  · exact hd
theorem sub_den {c : Int} {q : Rat} {k : Int} (h : (q.den : Int) ∣ k) : (((c : Rat) - q).den : Int) ∣ k := by
  have hd : (((c : Rat) - q).den : Int) ∣ (q.den : Int) := by
    rw [← lsq_eq c q]
    exact div_den (den_pos q)
  exact Int.dvd_trans hd h
theorem mnq0 {c : Int} {l : Rat} (hc : 0 ≤ c) (hl : 0 ≤ l) : 0 ≤ mnq c l := mnq_ge hl (cast_nonneg hc)
theorem aw_ok {cs : List Int} {e : Int} (hc : CE cs e) : chE cs e ((aw cs e).map rp) = 0 := by
  obtain ⟨hL, k, hk, hd⟩ := lv_char hc
  have hl8 := hc.ok.l8
  refine chE_ok hc (E := k) (by omega) (aw_len cs e) (fun q hq => ?_) (fun z hz => ?_) hL.s
  · obtain ⟨c, hcm, rfl⟩ := List.mem_map.1 hq
    exact ⟨mnq_den hd c, mnq0 (hc.ok.c c hcm).1 hL.l0⟩
  · unfold aw capL at hz
    rw [zip_self] at hz
    obtain ⟨c, hcm, rfl⟩ := List.mem_map.1 hz
    exact (mnq_le _ _).2
theorem sum_sub (f : Int → Rat) : ∀ cs : List Int, (cs.map (fun c : Int => (c : Rat) - f c)).sum = ((cs.sum : Int) : Rat) - (cs.map f).sum
  | [] => by simp only [List.map_nil, List.sum_nil]; rw [int0]; grind
  | c :: cs => by
    rw [List.map_cons, List.map_cons, List.sum_cons, List.sum_cons, List.sum_cons, sum_sub f cs, Rat.intCast_add]
    grind
theorem lo_ok {cs : List Int} {e : Int} (hc : CE cs e) : chE cs e ((lo cs e).map rp) = 0 := by
  obtain ⟨hL, k, hk, hd⟩ := lv_char hc.sub
  have hl8 := hc.ok.l8
  refine chE_ok hc (E := k) (by omega) (lo_len cs e) (fun q hq => ?_) (fun z hz => ?_) ?_
  · rw [lo_eq] at hq
    obtain ⟨c, hcm, rfl⟩ := List.mem_map.1 hq
    have := (mnq_le c (lv cs (cs.sum - e))).2
    exact ⟨sub_den (mnq_den hd c), by grind⟩
  · rw [lo_eq, zip_self] at hz
    obtain ⟨c, hcm, rfl⟩ := List.mem_map.1 hz
    have := mnq0 (hc.ok.c c hcm).1 hL.l0
    show (c : Rat) - mnq c (lv cs (cs.sum - e)) ≤ (c : Rat)
    grind
  · rw [lo_eq, sum_sub]
    have := hL.s
    unfold capL at this
    rw [this, Rat.intCast_sub]
    grind
end Go.Proofs.Ytdcdjhhjlpegjaa

namespace Go.Proofs.Ytdcdjhhjlpegjaa
open Go Go.Eng
section
variable {cs : List Int} {v : AV} {A : AHeap} {e : Int}
end
end Go.Proofs.Ytdcdjhhjlpegjaa

namespace Go.Proofs.Ytdcdjhhjlpegjaa
open Go Go.Eng
section
variable {cs : List Int} {v : AV} {A : AHeap} {e : Int}
end
end Go.Proofs.Ytdcdjhhjlpegjaa

namespace Go.Proofs.Ytdcdjhhjlpegjaa
open Go Go.Eng
section
variable {cs : List Int} {e : Int}
theorem lsL_map (f : Int → Rat) (cs : List Int) : lsL cs ((cs.map f).map rp) = cs.map (fun c : Int => (c : Rat) - f c) := by
  unfold lsL
  rw [List.map_map, zip_self, List.map_map]
  exact List.map_congr_left (fun c _ => lsq_eq _ _)
end
end Go.Proofs.Ytdcdjhhjlpegjaa

namespace Go.Proofs.Ytdcdjhhjlpegjaa
open Go Go.Eng
theorem out2 {f : Nat} {args : List AV} {A : AHeap} {xs : List (Int × Int)} {n : Int} (h : ACalls Try.prog f args A (.tuple [outV 2 A xs.length, I n]) (outH A (xs.flatMap e2) xs.length)) :
    ∃ r H, ACalls Try.prog f args A (.tuple [r, I n]) H ∧ A <+: H ∧ L2 H r xs := ⟨_, _, h, pre_out A _ _, Ls_out A e2_len xs⟩
section
variable {cs : List Int} {rs : List (Int × Int)} {v u : AV} {A : AHeap} {e : Int}
theorem byO_0 (hc : CE cs e) (qs : List Rat) : byO cs e qs = qs.map rp := if_pos (vE_0.2 hc)
theorem r_aw (hx : L1 A v cs) (hl : cs.length ≤ 1000000) (hc : CE cs e) : ∃ r H, ACalls Try.prog 19 [v, I e] A (.tuple [r, I 0]) H ∧ A <+: H ∧ L2 H r ((aw cs e).map rp) := by
  have h := out2 (s19 (e := e) hx hl)
  rw [byO_0 hc, vE_0.2 hc] at h
  exact h
theorem r_lo (hx : L1 A v cs) (hl : cs.length ≤ 1000000) (hc : CE cs e) : ∃ r H, ACalls Try.prog 20 [v, I e] A (.tuple [r, I 0]) H ∧ A <+: H ∧ L2 H r ((lo cs e).map rp) := by
  have h := out2 (s20 (e := e) hx hl)
  rw [byO_0 hc, vE_0.2 hc] at h
  exact h
theorem r_ls (hx : L1 A v cs) (hr : L2 A u rs) (hl : cs.length ≤ 1000000) (hok : chE cs e rs = 0) : ∃ r H, ACalls Try.prog 41 [v, I e, u] A (.tuple [r, I 0]) H ∧ A <+: H ∧ L2 H r ((lsL cs rs).map rp) := by
  have hle := (chE_0.1 hok).2.2.1
  have h := out2 (s41 (e := e) hx hr hl (by omega))
  rw [hok, show lsO cs e rs = (lsL cs rs).map rp from if_pos hok] at h
  exact h
theorem ln (qs : List Rat) : (qs.map rp).length = qs.length := by simp
end
end Go.Proofs.Ytdcdjhhjlpegjaa

namespace Go.Proofs.Ytdcdjhhjlpegjaa
open Go Go.Eng
theorem perm_is {xs ys : List Int} (h : xs.Perm ys) : xs.sum = ys.sum := by
  induction h with
  | nil => rfl
  | cons x _ ih => rw [List.sum_cons, List.sum_cons, ih]
  | swap x y l => simp only [List.sum_cons]; omega
  | trans _ _ h1 h2 => exact h1.trans h2
/-- A list that may be compared. -/
def okQ (xs : List (Int × Int)) : Prop := ¬ cm 1 xs = 0 ∧ (1 : Int) ≤ xs.length ∧ (xs.length : Int) ≤ 8
instance (xs : List (Int × Int)) : Decidable (okQ xs) := by unfold okQ; exact inferInstance
/-- The sums of the smallest ones of a first list, over their denominators, are not below those of a second one. -/
def meP (a b : List Int) (dx dy : Int) (n : Nat) : Prop := ∀ j, j < n → ((srt b).take j).sum * dx ≤ ((srt a).take j).sum * dy
instance (a b : List Int) (dx dy : Int) (n : Nat) : Decidable (meP a b dx dy n) := by unfold meP; exact inferInstance
def oX (xs : List (Int × Int)) : List Int := ov (cm 1 xs) xs
def meE (xs ys : List (Int × Int)) : Int := if okQ xs ∧ okQ ys then (if xs.length = ys.length ∧ (oX xs).sum * cm 1 ys = (oX ys).sum * cm 1 xs then 0 else 5) else 1
def meB (xs ys : List (Int × Int)) : Bool := decide (meE xs ys = 0 ∧ meP (oX xs) (oX ys) (cm 1 xs) (cm 1 ys) xs.length)
theorem meE_1 {xs ys : List (Int × Int)} (h : ¬ (okQ xs ∧ okQ ys)) : meE xs ys = 1 := by unfold meE; rw [if_neg h]
theorem meE_5 {xs ys : List (Int × Int)} (h : okQ xs ∧ okQ ys) (h2 : ¬ (xs.length = ys.length ∧ (oX xs).sum * cm 1 ys = (oX ys).sum * cm 1 xs)) : meE xs ys = 5 := by unfold meE; rw [if_pos h, if_neg h2]
theorem meE_0 {xs ys : List (Int × Int)} (h : okQ xs ∧ okQ ys) (h2 : xs.length = ys.length ∧ (oX xs).sum * cm 1 ys = (oX ys).sum * cm 1 xs) : meE xs ys = 0 := by unfold meE; rw [if_pos h, if_pos h2]
theorem meB_e {xs ys : List (Int × Int)} (h : ¬ meE xs ys = 0) : meB xs ys = false := by unfold meB; exact decide_eq_false (fun hh => h hh.1)
structure QF (xs : List (Int × Int)) : Prop where
  f : ∀ r ∈ xs, fitR r
  d : 0 ≤ cm 1 xs ∧ cm 1 xs ≤ 10000
  b : ∀ x ∈ oX xs, 0 ≤ x ∧ x ≤ 100000000000
  l : (oX xs).length = xs.length
  s : ∀ k, 0 ≤ ((srt (oX xs)).take k).sum ∧ ((srt (oX xs)).take k).sum ≤ 800000000000
  t : 0 ≤ (oX xs).sum ∧ (oX xs).sum ≤ 800000000000
theorem okQ.qf {xs : List (Int × Int)} (h : okQ xs) : QF xs := by
  obtain ⟨h1, h2, h3⟩ := h
  obtain ⟨hf, _, hc1, hc2⟩ := cm_facts xs 1 (by omega) h1
  have hb : ∀ x ∈ oX xs, 0 ≤ x ∧ x ≤ 100000000000 := by
    intro x hx
    obtain ⟨r, hr, rfl⟩ := List.mem_map.1 hx
    exact (ov_bd ⟨by omega, hc2⟩ (hf r hr).1).2.2
  have hl : (oX xs).length = xs.length := ov_len _ _
  refine ⟨fun r hr => (hf r hr).1, ⟨by omega, hc2⟩, hb, hl, fun k => ?_, ?_⟩
  · have h5 := sum_bd0 (K := 100000000000) (l := (srt (oX xs)).take k) (fun x hx => hb x ((srt_perm _).mem_iff.1 (List.mem_of_mem_take hx)))
    have h6 : ((srt (oX xs)).take k).length ≤ 8 := by rw [List.length_take, srt_len]; omega
    omega
  · have h5 := sum_bd0 (K := 100000000000) (l := oX xs) hb
    omega
section
variable {xs ys : List (Int × Int)} {v u : AV} {A : AHeap}
theorem outV_pos {es : Nat} {A : AHeap} {k : Nat} (h : 0 < k) : outV es A k = .sl es A.length 0 k false := by unfold outV; rw [if_neg (by omega)]
theorem outH_pos {A : AHeap} {cs : List AV} {k : Nat} (h : 0 < k) : outH A cs k = A ++ [.cells true cs] := by unfold outH; rw [if_neg (by omega)]
theorem Ls_cells {α : Type} {es : Nat} {e : α → List AV} {A : AHeap} {u : AV} {xs : List α} (h : Ls es e A u xs) : u.cells? = some [u] := by
  rcases h.inv with ⟨rfl, _⟩ | ⟨n, off, full, rw, l, rfl, _⟩ <;> rfl
def ev (x : AV × List (Int × Int)) : List AV := [x.1]
theorem mul_w {s d : Int} (hs : 0 ≤ s ∧ s ≤ 800000000000) (hd : 0 ≤ d ∧ d ≤ 10000) : 0 ≤ s * d ∧ s * d ≤ 8000000000000000 := by
  have m1 := Int.mul_le_mul hs.2 hd.2 hd.1 (by omega : (0 : Int) ≤ 800000000000)
  have m2 := Int.mul_nonneg hs.1 hd.1
  omega
set_option maxHeartbeats 4000000 in
theorem s39 (hx : L2 A v xs) (hy : L2 A u ys) (hl : xs.length ≤ 1000000) (hl2 : ys.length ≤ 1000000) : ACalls Try.prog 39 [v, u] A (.tuple [B (meB xs ys), I (meE xs ys)]) A := by
  refine acalls hmix Try.func39 (by kernel_rfl) t39 2 rfl (by decide) ?_
  have hp0 := pre_app A [AObj.cells true [v, u]]
  have hL : Ls 1 ev (A ++ [AObj.cells true [v, u]]) (.sl 1 A.length 0 2 true) [(v, xs), (u, ys)] := by
    refine ⟨fun _ => rfl, ?_⟩
    simp [slCells, cellsAt, ev]
  have hvc := Ls_cells hx
  have huc := Ls_cells hy
  dsimp only [m39]
  simp (maxSteps := 4000000) -implicitDefEqProofs -dsimp (disch := omega) only [↓AW_ops, ↓AW_seq, ↓AOps_nil, ↓AOps_pu, ↓AOps_ha, on_some, extK_app, ↓then_normal, pval, hval_blds, rd_S, rd_C, put_S, splice, fillA, repl, eq_self, List.replicate_succ, List.replicate_zero, List.set_cons_zero, List.set_cons_succ, List.getElem?_cons_zero, List.getElem?_cons_succ, List.drop_zero, List.drop_succ_cons, List.drop_nil, List.take_zero, List.take_succ_cons, Option.getD_some, map_c, map_n, List.length_cons, List.length_nil, Nat.reduceAdd, Nat.reduceSub, Nat.reduceLeDiff, Nat.zero_add, List.cons_append, List.nil_append, List.append_nil, if_true, and_true, hvc, huc]
  generalize A ++ [AObj.cells true [v, u]] = A0 at *
  have hl2' : lenA (.sl 1 A.length 0 2 true) = some (I 2) := rfl
  generalize AV.sl 1 A.length 0 2 true = w at *
  have hx0 := hx.mono hp0
  have hy0 := hy.mono hp0
  have hin : ∀ x ∈ [(v, xs), (u, ys)], L2 A0 x.1 x.2 ∧ x.2.length ≤ 1000000 := by
    intro x hxm
    simp only [List.mem_cons, List.not_mem_nil, or_false] at hxm
    rcases hxm with rfl | rfl
    · exact ⟨hx0, hl⟩
    · exact ⟨hy0, hl2⟩
  simp (maxSteps := 4000000) -implicitDefEqProofs -dsimp (disch := omega) only [↓AW_block, ↓AOps_nil, ↓AOps_pu, on_some, ↓then_normal, pval, rd_C, put_S, ↓AW_toLoop, List.replicate_succ, List.replicate_zero, List.set_cons_zero, List.set_cons_succ, Nat.reduceSub, List.cons_append, List.nil_append, hl2']
  have bad : ¬ (okQ xs ∧ okQ ys) → GC A (.tuple [B false, I 1]) A0 (.tuple [B (meB xs ys), I (meE xs ys)]) A := by
    intro h
    have h1 := meE_1 h
    rw [meB_e (by omega), h1]
    exact gc_val hp0 rfl
  refine LoopK.by 98 (fun i : Nat => i ≤ 2 ∧ ∀ x ∈ [(v, xs), (u, ys)].take i, okQ x.2) (fun i => [(0, v), (1, u), (19, w), (20, I 2), (21, I i)]) (fun _ => A0) (fun i => 2 - i) 0 ⟨by omega, by simp⟩ rfl (by simp [Has, rd_s]) rfl ?_
  rintro i ⟨hi, hok⟩
  by_cases hlt : i < [(v, xs), (u, ys)].length
  · obtain ⟨z, hz⟩ : ∃ z, [(v, xs), (u, ys)][i]? = some z := ⟨_, List.getElem?_eq_getElem hlt⟩
    have hlt' : (i : Int) < 2 := by simp at hlt; omega
    have hzm := List.mem_of_getElem? hz
    obtain ⟨hz1, hz2⟩ := hin z hzm
    have hzbad : ¬ okQ z.2 → ¬ (okQ xs ∧ okQ ys) := by
      intro h hh
      simp only [List.mem_cons, List.not_mem_nil, or_false] at hzm
      rcases hzm with rfl | rfl
      · exact h hh.1
      · exact h hh.2
    simp (maxSteps := 4000000) -implicitDefEqProofs -dsimp (disch := omega) only [↓AW_skip, ↓AW_ops, ↓AW_seq, ↓AW_cond, ↓AW_block, ↓AOps_nil, ↓AOps_pu, ↓AOps_ld, ↓AOps_call, on_some, condB_t, ↓then_normal, pval, lval, rd_S, put_S, partA, eq_self, mk, List.foldl_cons, List.foldl_nil, List.replicate_succ, List.replicate_zero, List.set_cons_zero, List.set_cons_succ, List.getElem?_cons_zero, List.getElem?_cons_succ, List.drop_zero, List.take_succ_cons, List.take_nil, Option.getD_some, map_c, map_n, List.length_cons, List.length_nil, Nat.reduceLeDiff, Nat.zero_add, bin_lss, if_true, if_false, Bool.false_eq_true, decide_true, hlt', hL.idx hlt, hL.ld0 hz 1 false (by decide), ev]
    refine CallK.of (c_common hz1 hz2) ?_
    by_cases h1 : cm 1 z.2 = 0
    · simp (maxSteps := 4000000) -implicitDefEqProofs -dsimp (disch := omega) only [↓AW_ops, ↓AW_seq, ↓AW_cond, ↓AW_ret, ↓AOps_nil, ↓AOps_pu, ↓AOps_guard, on_some, extK_same, guardB_tf, skipS_some, condB_t, ↓then_normal, ↓then_ret, ↓inBlock_ret, ↓Fin_ret, pval, rd_S, rd_C, put_S, resV, resL, eq_self, mk, List.foldl_cons, List.foldl_nil, List.replicate_succ, List.replicate_zero, List.set_cons_zero, List.set_cons_succ, List.getElem?_cons_zero, List.getElem?_cons_succ, Option.getD_some, if_true, Bool.not_true, Bool.not_false, decide_true, h1]
      exact bad (hzbad (fun hh => hh.1 h1))
    by_cases h2 : (z.2.length : Int) < 1
    · simp (maxSteps := 4000000) -implicitDefEqProofs -dsimp (disch := omega) only [↓AW_ops, ↓AW_seq, ↓AW_cond, ↓AW_ret, ↓AOps_nil, ↓AOps_pu, ↓AOps_guard, on_some, extK_same, guardB_tf, guardB_ff, skipS_some, condB_t, ↓then_normal, ↓then_ret, ↓inBlock_ret, ↓Fin_ret, pval, rd_S, rd_C, put_S, resV, resL, eq_self, mk, List.foldl_cons, List.foldl_nil, List.replicate_succ, List.replicate_zero, List.set_cons_zero, List.set_cons_succ, List.getElem?_cons_zero, List.getElem?_cons_succ, Option.getD_some, bin_lss, if_true, if_false, Bool.false_eq_true, Bool.not_true, Bool.not_false, decide_true, decide_false, h1, hz1.len, h2]
      exact bad (hzbad (fun hh => by have := hh.2; omega))
    by_cases h3 : (8 : Int) < z.2.length
    · simp (maxSteps := 4000000) -implicitDefEqProofs -dsimp (disch := omega) only [↓AW_ops, ↓AW_seq, ↓AW_cond, ↓AW_ret, ↓AOps_nil, ↓AOps_pu, ↓AOps_guard, on_some, extK_same, guardB_ff, condB_t, ↓then_normal, ↓then_ret, ↓inBlock_ret, ↓Fin_ret, pval, rd_S, rd_C, put_S, resV, resL, mk, List.foldl_cons, List.foldl_nil, List.replicate_succ, List.replicate_zero, List.set_cons_zero, List.set_cons_succ, List.getElem?_cons_zero, List.getElem?_cons_succ, Option.getD_some, bin_lss, bin_gtr, if_false, Bool.false_eq_true, Bool.not_true, Bool.not_false, decide_true, decide_false, h1, hz1.len, h2, h3]
      exact bad (hzbad (fun hh => by have := hh.2; omega))
    simp (maxSteps := 4000000) -implicitDefEqProofs -dsimp (disch := omega) only [↓AW_skip, ↓AW_ops, ↓AW_seq, ↓AW_cond, ↓AOps_nil, ↓AOps_pu, ↓AOps_guard, on_some, extK_same, guardB_ff, condB_f, ↓then_normal, ↓inBlock_normal, pval, rd_S, rd_C, put_S, eq_self, mk, List.foldl_cons, List.foldl_nil, List.replicate_succ, List.replicate_zero, List.set_cons_zero, List.set_cons_succ, List.getElem?_cons_zero, List.getElem?_cons_succ, Option.getD_some, List.length_cons, List.length_nil, Nat.reduceAdd, Nat.zero_add, bin_add, bin_lss, bin_gtr, w64, if_false, Bool.false_eq_true, Bool.not_true, Bool.not_false, decide_false, true_and, h1, hz1.len, h2, h3]
    refine ⟨i + 1, ⟨by simp at hlt; omega, fun x hxm => ?_⟩, by simp [Has, rd_s], by omega⟩
    rcases (take_mem hz).1 hxm with hxm | rfl
    · exact hok x hxm
    · exact ⟨h1, by omega, by omega⟩
  · have hi2 : i = 2 := by simp at hlt; omega
    subst hi2
    have hox : okQ xs := hok (v, xs) (by simp)
    have hoy : okQ ys := hok (u, ys) (by simp)
    have qx := hox.qf
    have qy := hoy.qf
    have h1x := hox.1
    have h1y := hoy.1
    have h2x := hox.2
    have h2y := hoy.2
    simp (maxSteps := 4000000) -implicitDefEqProofs -dsimp (disch := omega) only [↓AW_ops, ↓AW_seq, ↓AW_cond, ↓AW_exit, ↓AOps_nil, ↓AOps_pu, ↓AOps_call, on_some, condB_f, ↓then_normal, ↓then_exit, ↓inBlock_exit, pval, rd_S, put_S, eq_self, mk, List.foldl_cons, List.foldl_nil, List.replicate_succ, List.replicate_zero, List.set_cons_zero, List.set_cons_succ, List.getElem?_cons_zero, List.getElem?_cons_succ, Option.getD_some, map_c, map_n, bin_lss, if_true, decide_false, Int.reduceLT, Int.cast_ofNat_Int]
    refine CallK.of (c_common hx0 hl) ?_
    simp (maxSteps := 4000000) -implicitDefEqProofs -dsimp (disch := omega) only [↓AW_ops, ↓AW_seq, ↓AOps_nil, ↓AOps_pu, ↓AOps_call, on_some, extK_same, ↓then_normal, pval, rd_S, put_S, mk, List.foldl_cons, List.foldl_nil, List.replicate_succ, List.replicate_zero, List.set_cons_zero, List.set_cons_succ, List.getElem?_cons_zero, List.getElem?_cons_succ, Option.getD_some, map_c, map_n]
    refine CallK.of (c_common hy0 hl2) ?_
    simp (maxSteps := 4000000) -implicitDefEqProofs -dsimp (disch := omega) only [↓AW_ops, ↓AW_seq, ↓AOps_nil, ↓AOps_pu, ↓AOps_call, on_some, extK_same, ↓then_normal, pval, rd_S, put_S, mk, List.foldl_cons, List.foldl_nil, List.replicate_succ, List.replicate_zero, List.set_cons_zero, List.set_cons_succ, List.getElem?_cons_zero, List.getElem?_cons_succ, Option.getD_some, map_c, map_n]
    have hax : ov (cm 1 xs) xs = oX xs := rfl
    have hay : ov (cm 1 ys) ys = oX ys := rfl
    refine CallK.of (c_over hx0 hl qx.d qx.f) ?_
    rw [hax, outV_pos (by rw [qx.l]; omega), outH_pos (by rw [qx.l]; omega)]
    have hp1 := pre_app A0 [AObj.cells true ((oX xs).flatMap e1)]
    simp (maxSteps := 4000000) -implicitDefEqProofs -dsimp (disch := omega) only [↓AOps_pu, ↓AOps_call, on_some, extK_app, pval, rd_S, put_S, mk, List.foldl_cons, List.foldl_nil, List.replicate_succ, List.replicate_zero, List.set_cons_zero, List.set_cons_succ, List.getElem?_cons_zero, List.getElem?_cons_succ, Option.getD_some, map_c, map_n]
    refine CallK.of (c_over (hy0.mono hp1) hl2 qy.d qy.f) ?_
    rw [hay, outV_pos (by rw [qy.l]; omega), outH_pos (by rw [qy.l]; omega)]
    have hA1l : (A0 ++ [AObj.cells true ((oX xs).flatMap e1)]).length = A0.length + 1 := by simp
    have hoa := (OL.new_mk e1_len A0 (oX xs) false).mono (pre_app _ [AObj.cells true ((oX ys).flatMap e1)])
    have hob := OL.new_mk e1_len (A0 ++ [AObj.cells true ((oX xs).flatMap e1)]) (oX ys) false
    have hob2 := OL.new_mk e1_len (A0 ++ [AObj.cells true ((srt (oX xs)).flatMap e1)]) (oX ys) false
    have hobs := OL.new_mk e1_len (A0 ++ [AObj.cells true ((srt (oX xs)).flatMap e1)]) (srt (oX ys)) false
    have hoas := (OL.new_mk e1_len A0 (srt (oX xs)) false).mono (pre_app _ [AObj.cells true ((srt (oX ys)).flatMap e1)])
    have hA1l2 : (A0 ++ [AObj.cells true ((srt (oX xs)).flatMap e1)]).length = A0.length + 1 := by simp
    rw [hA1l] at hob ⊢
    rw [hA1l2] at hob2 hobs
    rw [srt_len] at hoas hobs
    have hsa := c_Sort hoa (by have := qx.l; omega)
    have hsb := c_Sort hob2 (by have := qy.l; omega)
    have e1s : (A0 ++ [AObj.cells true ((oX xs).flatMap e1)] ++ [AObj.cells true ((oX ys).flatMap e1)]).set A0.length (.cells true ((srt (oX xs)).flatMap e1)) = A0 ++ [AObj.cells true ((srt (oX xs)).flatMap e1)] ++ [AObj.cells true ((oX ys).flatMap e1)] := by
      rw [List.set_append_left _ _ (by simp), set_new]
    have e2s : (A0 ++ [AObj.cells true ((srt (oX xs)).flatMap e1)] ++ [AObj.cells true ((oX ys).flatMap e1)]).set (A0.length + 1) (.cells true ((srt (oX ys)).flatMap e1)) = A0 ++ [AObj.cells true ((srt (oX xs)).flatMap e1)] ++ [AObj.cells true ((srt (oX ys)).flatMap e1)] := by
      have := set_new (A0 ++ [AObj.cells true ((srt (oX xs)).flatMap e1)]) (.cells true ((oX ys).flatMap e1)) (.cells true ((srt (oX ys)).flatMap e1))
      rw [hA1l2] at this
      exact this
    rw [e1s] at hsa
    rw [e2s] at hsb
    have hla : lenA (.sl 1 A0.length 0 (oX xs).length false) = some (I xs.length) := by rw [qx.l]; rfl
    have hlb : lenA (.sl 1 (A0.length + 1) 0 (oX ys).length false) = some (I ys.length) := by rw [qy.l]; rfl
    generalize AV.sl 1 A0.length 0 (oX xs).length false = va at *
    generalize AV.sl 1 (A0.length + 1) 0 (oX ys).length false = vb at *
    have hpo := hoa.pre
    have hpos := hoas.pre
    generalize A0 ++ [AObj.cells true ((oX xs).flatMap e1)] ++ [AObj.cells true ((oX ys).flatMap e1)] = A2 at *
    generalize A0 ++ [AObj.cells true ((srt (oX xs)).flatMap e1)] ++ [AObj.cells true ((oX ys).flatMap e1)] = A3 at *
    generalize A0 ++ [AObj.cells true ((srt (oX xs)).flatMap e1)] ++ [AObj.cells true ((srt (oX ys)).flatMap e1)] = A4 at *
    have t5 : ∀ H, A <+: H → ¬ (xs.length = ys.length ∧ (oX xs).sum * cm 1 ys = (oX ys).sum * cm 1 xs) → GC A (.tuple [B false, I 5]) H (.tuple [B (meB xs ys), I (meE xs ys)]) A := by
      intro H hp h
      have h5 := meE_5 ⟨hox, hoy⟩ h
      rw [meB_e (by omega), h5]
      exact gc_val hp rfl
    by_cases hle : xs.length = ys.length
    case neg =>
      have hle' : ¬ (xs.length : Int) = ys.length := by omega
      simp (maxSteps := 4000000) -implicitDefEqProofs -dsimp (disch := omega) only [↓AW_ops, ↓AW_seq, ↓AW_cond, ↓AW_ret, ↓AOps_nil, ↓AOps_pu, ↓AOps_guard, on_some, extK_false, guardB_tf, skipS_some, condB_t, ↓then_normal, ↓then_ret, ↓Fin_ret, pval, rd_S, rd_C, put_S, resV, resL, eq_self, mk, List.foldl_cons, List.foldl_nil, List.replicate_succ, List.replicate_zero, List.set_cons_zero, List.set_cons_succ, List.getElem?_cons_zero, List.getElem?_cons_succ, Option.getD_some, bin_neq, if_true, decide_true, not_false_eq_true, hla, hlb, hle']
      exact t5 A2 (hp0.trans hpo) (fun hh => hle hh.1)
    have hle' : (xs.length : Int) = ys.length := by omega
    simp (maxSteps := 4000000) -implicitDefEqProofs -dsimp (disch := omega) only [↓AW_ops, ↓AW_seq, ↓AOps_nil, ↓AOps_pu, ↓AOps_call, ↓AOps_guard, on_some, extK_false, guardB_ff, ↓then_normal, pval, rd_S, put_S, eq_self, mk, List.foldl_cons, List.foldl_nil, List.replicate_succ, List.replicate_zero, List.set_cons_zero, List.set_cons_succ, List.getElem?_cons_zero, List.getElem?_cons_succ, Option.getD_some, map_c, map_n, bin_neq, decide_false, not_true_eq_false, hla, hlb, hle']
    refine CallK.of (c_total hoa.ls (by have := qx.l; omega) (fun x hx => by have := qx.b x hx; omega)) ?_
    have w1 := mul_w qx.t qy.d
    have w2 := mul_w qy.t qx.d
    simp (maxSteps := 4000000) -implicitDefEqProofs -dsimp (disch := omega) only [↓AOps_pu, ↓AOps_call, ↓AOps_guard, on_some, extK_same, guardB_ff, pval, rd_S, put_S, mk, List.foldl_cons, List.foldl_nil, List.replicate_succ, List.replicate_zero, List.set_cons_zero, List.set_cons_succ, List.getElem?_cons_zero, List.getElem?_cons_succ, Option.getD_some, map_c, map_n, bin_mul, w64]
    refine CallK.of (c_total hob.ls (by have := qy.l; omega) (fun x hx => by have := qy.b x hx; omega)) ?_
    by_cases heq : (oX xs).sum * cm 1 ys = (oX ys).sum * cm 1 xs
    case neg =>
      simp (maxSteps := 4000000) -implicitDefEqProofs -dsimp (disch := omega) only [↓AW_ops, ↓AW_seq, ↓AW_cond, ↓AW_ret, ↓AOps_nil, ↓AOps_pu, ↓AOps_guard, on_some, extK_same, guardB_ff, condB_t, ↓then_normal, ↓then_ret, ↓Fin_ret, pval, rd_S, rd_C, put_S, resV, resL, mk, List.foldl_cons, List.foldl_nil, List.replicate_succ, List.replicate_zero, List.set_cons_zero, List.set_cons_succ, List.getElem?_cons_zero, List.getElem?_cons_succ, Option.getD_some, bin_mul, bin_neq, w64, if_false, Bool.false_eq_true, decide_true, not_false_eq_true, heq]
      exact t5 A2 (hp0.trans hpo) (fun hh => heq hh.2)
    have hE := meE_0 ⟨hox, hoy⟩ ⟨hle, heq⟩
    simp (maxSteps := 4000000) -implicitDefEqProofs -dsimp (disch := omega) only [↓AW_skip, ↓AW_ops, ↓AW_seq, ↓AW_cond, ↓AOps_nil, ↓AOps_pu, ↓AOps_call, ↓AOps_guard, on_some, extK_same, guardB_ff, condB_f, ↓then_normal, pval, rd_S, rd_C, put_S, eq_self, mk, List.foldl_cons, List.foldl_nil, List.replicate_succ, List.replicate_zero, List.set_cons_zero, List.set_cons_succ, List.getElem?_cons_zero, List.getElem?_cons_succ, Option.getD_some, map_c, map_n, bin_mul, bin_neq, w64, if_false, Bool.false_eq_true, decide_false, not_true_eq_false, heq]
    refine CallK.of hsa ?_
    simp (maxSteps := 4000000) -implicitDefEqProofs -dsimp (disch := omega) only [↓AW_ops, ↓AW_seq, ↓AOps_nil, ↓AOps_pu, ↓AOps_call, on_some, extK_false, ↓then_normal, pval, rd_S, put_S, mk, List.foldl_cons, List.foldl_nil, List.replicate_succ, List.replicate_zero, List.set_cons_zero, List.set_cons_succ, List.getElem?_cons_zero, List.getElem?_cons_succ, Option.getD_some, map_c, map_n]
    refine CallK.of hsb ?_
    simp (maxSteps := 4000000) -implicitDefEqProofs -dsimp (disch := omega) only [↓AW_ops, ↓AW_seq, ↓AW_block, ↓AOps_nil, ↓AOps_pu, on_some, extK_false, ↓then_normal, pval, rd_S, rd_C, put_S, ↓AW_toLoop, mk, List.foldl_cons, List.foldl_nil, List.replicate_succ, List.replicate_zero, List.set_cons_zero, List.set_cons_succ, List.getElem?_cons_zero, List.getElem?_cons_succ, Option.getD_some, hla]
    refine LoopK.by 98 (fun k : Nat => k ≤ xs.length ∧ meP (oX xs) (oX ys) (cm 1 xs) (cm 1 ys) k) (fun k => [(10, I (cm 1 xs)), (12, I (cm 1 ys)), (14, va), (15, vb), (80, I xs.length), (81, I k)]) (fun _ => A4) (fun k => xs.length - k) 0 ⟨by omega, fun j hj => by omega⟩ rfl (by simp [Has, rd_s, hle']) rfl ?_
    rintro k ⟨hk, hme⟩
    by_cases hkt : k < xs.length
    · have hkt' : (k : Int) < xs.length := by omega
      obtain ⟨va2, hsl1, hta⟩ := Ls_takeS hoas.ls k (by rw [srt_len, qx.l]; omega)
      obtain ⟨vb2, hsl2, htb⟩ := Ls_takeS hobs.ls k (by rw [srt_len, qy.l]; omega)
      have s1 := qx.s k
      have s2 := qy.s k
      have w3 := mul_w s1 qy.d
      have w4 := mul_w s2 qx.d
      simp (maxSteps := 4000000) -implicitDefEqProofs -dsimp (disch := omega) only [↓AW_skip, ↓AW_ops, ↓AW_seq, ↓AW_cond, ↓AW_block, ↓AOps_nil, ↓AOps_pu, ↓AOps_call, on_some, condB_t, ↓then_normal, pval, rd_S, put_S, mk, List.foldl_cons, List.foldl_nil, List.replicate_succ, List.replicate_zero, List.set_cons_zero, List.set_cons_succ, List.getElem?_cons_zero, List.getElem?_cons_succ, Option.getD_some, Option.map_some, Option.map_none, map_c, map_n, bin_lss, decide_true, hkt', hsl1]
      refine CallK.of (c_total hta (by rw [List.length_take, srt_len]; omega) (fun x hx => by have := qx.b x ((srt_perm _).mem_iff.1 (List.mem_of_mem_take hx)); omega)) ?_
      simp (maxSteps := 4000000) -implicitDefEqProofs -dsimp (disch := omega) only [↓AOps_pu, ↓AOps_call, on_some, extK_same, pval, rd_S, put_S, mk, List.foldl_cons, List.foldl_nil, List.replicate_succ, List.replicate_zero, List.set_cons_zero, List.set_cons_succ, List.getElem?_cons_zero, List.getElem?_cons_succ, Option.getD_some, Option.map_some, Option.map_none, map_c, map_n, bin_mul, w64, hsl2]
      refine CallK.of (c_total htb (by rw [List.length_take, srt_len]; omega) (fun x hx => by have := qy.b x ((srt_perm _).mem_iff.1 (List.mem_of_mem_take hx)); omega)) ?_
      by_cases hlt2 : ((srt (oX xs)).take k).sum * cm 1 ys < ((srt (oX ys)).take k).sum * cm 1 xs
      · simp (maxSteps := 4000000) -implicitDefEqProofs -dsimp (disch := omega) only [↓AW_ops, ↓AW_seq, ↓AW_cond, ↓AW_ret, ↓AOps_nil, ↓AOps_pu, on_some, extK_same, condB_t, ↓then_normal, ↓then_ret, ↓inBlock_ret, ↓Fin_ret, pval, rd_S, rd_C, put_S, resV, resL, mk, List.foldl_cons, List.foldl_nil, List.replicate_succ, List.replicate_zero, List.set_cons_zero, List.set_cons_succ, List.getElem?_cons_zero, List.getElem?_cons_succ, Option.getD_some, bin_mul, bin_lss, w64, decide_true, hlt2]
        have hB : meB xs ys = false := by
          unfold meB
          refine decide_eq_false (fun hh => ?_)
          have := hh.2 k hkt
          omega
        rw [hB, hE]
        exact gc_val (hp0.trans hpos) rfl
      · simp (maxSteps := 4000000) -implicitDefEqProofs -dsimp (disch := omega) only [↓AW_skip, ↓AW_ops, ↓AW_cond, ↓AOps_nil, ↓AOps_pu, on_some, extK_same, condB_f, ↓then_normal, ↓inBlock_normal, pval, rd_S, rd_C, put_S, eq_self, mk, List.foldl_cons, List.foldl_nil, List.replicate_succ, List.replicate_zero, List.set_cons_zero, List.set_cons_succ, List.getElem?_cons_zero, List.getElem?_cons_succ, Option.getD_some, List.length_cons, List.length_nil, Nat.reduceAdd, Nat.zero_add, bin_add, bin_mul, bin_lss, w64, decide_false, true_and, hlt2]
        refine ⟨k + 1, ⟨hkt, fun j hj => ?_⟩, by simp [Has, rd_s], by omega⟩
        by_cases hjk : j < k
        · exact hme j hjk
        · have : j = k := by omega
          subst this
          omega
    · have hkt' : ¬ ((k : Int) < xs.length) := by omega
      have hke : k = xs.length := by omega
      subst hke
      simp (maxSteps := 4000000) -implicitDefEqProofs -dsimp (disch := omega) only [↓AW_ops, ↓AW_seq, ↓AW_cond, ↓AW_exit, ↓AW_ret, ↓AOps_nil, ↓AOps_pu, on_some, condB_f, ↓then_normal, ↓then_exit, ↓inBlock_exit, ↓Fin_ret, pval, rd_S, rd_C, put_S, resV, resL, eq_self, mk, List.foldl_cons, List.foldl_nil, List.replicate_succ, List.replicate_zero, List.set_cons_zero, List.set_cons_succ, List.getElem?_cons_zero, List.getElem?_cons_succ, Option.getD_some, bin_lss, if_true, decide_false, hkt']
      have hB : meB xs ys = true := by
        unfold meB
        exact decide_eq_true ⟨hE, hme⟩
      rw [hB, hE]
      exact gc_val (hp0.trans hpos) rfl
end
end Go.Proofs.Ytdcdjhhjlpegjaa

namespace Go.Proofs.Ytdcdjhhjlpegjaa
open Go Go.Eng
/-- What is missing up to a number. -/
def miss (t : Int) (xs : List Int) : Int := (xs.map (fun x => max 0 (t - x))).sum
theorem miss_nonneg (t : Int) : ∀ xs : List Int, 0 ≤ miss t xs
  | [] => by simp [miss]
  | x :: xs => by
    have := miss_nonneg t xs
    unfold miss at *
    rw [List.map_cons, List.sum_cons]
    omega
theorem miss_cons (t x : Int) (xs : List Int) : miss t (x :: xs) = max 0 (t - x) + miss t xs := by
  unfold miss
  rw [List.map_cons, List.sum_cons]
theorem pre_ge (t : Int) : ∀ (s : List Int) (k : Nat), k ≤ s.length → k * t - miss t s ≤ (s.take k).sum
  | s, 0, _ => by
    have := miss_nonneg t s
    simp
    omega
  | [], k + 1, h => by simp at h
  | x :: s, k + 1, h => by
    have ih := pre_ge t s k (by simpa using h)
    rw [miss_cons, List.take_succ_cons, List.sum_cons]
    have e1 : ((k + 1 : Nat) : Int) * t = (k : Int) * t + t := by
      have : ((k + 1 : Nat) : Int) = (k : Int) + 1 := by omega
      rw [this, Int.add_mul, Int.one_mul]
    rw [e1]
    omega
theorem miss_low {t : Int} : ∀ {s : List Int}, (∀ x ∈ s, t ≤ x) → miss t s = 0
  | [], _ => rfl
  | x :: s, h => by
    rw [miss_cons, miss_low (fun y hy => h y (by simp [hy]))]
    have := h x (by simp)
    omega
theorem pre_eq : ∀ (s : List Int) (k : Nat) (t : Int), s.Pairwise (· ≤ ·) → s[k]? = some t → (s.take k).sum = k * t - miss t s
  | [], k, t, _, h => by simp at h
  | x :: s, 0, t, hp, h => by
    have : x = t := by simpa using h
    subst this
    rw [List.pairwise_cons] at hp
    rw [miss_low (s := x :: s) (fun y hy => by
      rcases List.mem_cons.1 hy with rfl | hy
      · exact Int.le_refl _
      · exact hp.1 y hy)]
    simp
  | x :: s, k + 1, t, hp, h => by
    rw [List.pairwise_cons] at hp
    have ht : s[k]? = some t := by simpa using h
    have ih := pre_eq s k t hp.2 ht
    have hx := hp.1 t (List.mem_of_getElem? ht)
    rw [miss_cons, List.take_succ_cons, List.sum_cons, ih]
    have e1 : ((k + 1 : Nat) : Int) * t = (k : Int) * t + t := by
      have : ((k + 1 : Nat) : Int) = (k : Int) + 1 := by omega
      rw [this, Int.add_mul, Int.one_mul]
    rw [e1]
    omega
theorem miss_perm {t : Int} {xs ys : List Int} (h : xs.Perm ys) : miss t xs = miss t ys := perm_is (h.map _)
theorem miss_le {T : Int} : ∀ {U V : List Int}, U.length = V.length → (∀ z ∈ U.zip V, T ≤ z.1 ∨ z.2 ≤ z.1) → miss T U ≤ miss T V
  | [], [], _, _ => Int.le_refl _
  | u :: U, v :: V, hl, h => by
    have ih := miss_le (T := T) (U := U) (V := V) (by simpa using hl) (fun z hz => h z (by simp [hz]))
    have := h (u, v) (by simp)
    rw [miss_cons, miss_cons]
    simp only at this
    omega
  | [], v :: V, hl, _ => by simp at hl
  | u :: U, [], hl, _ => by simp at hl
theorem miss_high {T : Int} : ∀ {U : List Int}, (∀ u ∈ U, u ≤ T) → miss T U = U.length * T - U.sum
  | [], _ => by simp [miss]
  | u :: U, h => by
    have ih := miss_high (T := T) (U := U) (fun y hy => h y (by simp [hy]))
    have := h u (by simp)
    rw [miss_cons, ih, List.sum_cons, List.length_cons]
    have e1 : ((U.length + 1 : Nat) : Int) * T = (U.length : Int) * T + T := by
      have : ((U.length + 1 : Nat) : Int) = (U.length : Int) + 1 := by omega
      rw [this, Int.add_mul, Int.one_mul]
    rw [e1]
    omega
theorem miss_any (T : Int) : ∀ V : List Int, V.length * T - V.sum ≤ miss T V
  | [] => by simp [miss]
  | u :: U => by
    have ih := miss_any T U
    rw [miss_cons, List.sum_cons, List.length_cons]
    have e1 : ((U.length + 1 : Nat) : Int) * T = (U.length : Int) * T + T := by
      have : ((U.length + 1 : Nat) : Int) = (U.length : Int) + 1 := by omega
      rw [this, Int.add_mul, Int.one_mul]
    rw [e1]
    omega
/-- A list that fills up from below has the greatest sums of its smallest ones. -/
theorem dom {U V : List Int} (hl : U.length = V.length) (hs : U.sum = V.sum) (h : ∀ T : Int, (∀ z ∈ U.zip V, T ≤ z.1 ∨ z.2 ≤ z.1) ∨ (∀ u ∈ U, u ≤ T)) {k : Nat} (hk : k < V.length) : ((srt V).take k).sum ≤ ((srt U).take k).sum := by
  have hk2 : k < (srt V).length := by rw [srt_len]; exact hk
  have h1 := pre_eq (srt V) k ((srt V)[k]) (srt_pw V) (List.getElem?_eq_getElem hk2)
  generalize (srt V)[k] = T at *
  have h2 := pre_ge T (srt U) k (by rw [srt_len]; omega)
  rw [miss_perm (srt_perm V)] at h1
  rw [miss_perm (srt_perm U)] at h2
  have h3 : miss T U ≤ miss T V := by
    rcases h T with h4 | h4
    · exact miss_le hl h4
    · rw [miss_high h4]
      have := miss_any T V
      rw [hl, hs]
      exact this
  omega
theorem map_mul_sum (m : Int) : ∀ xs : List Int, (xs.map (· * m)).sum = xs.sum * m
  | [] => by simp
  | x :: xs => by rw [List.map_cons, List.sum_cons, List.sum_cons, map_mul_sum m xs, Int.add_mul]
theorem srt_mul {m : Int} (hm : 0 ≤ m) (xs : List Int) : srt (xs.map (· * m)) = (srt xs).map (· * m) := by
  symm
  refine srt_uniq ((srt_perm xs).map _) ?_
  rw [List.pairwise_map]
  exact (srt_pw xs).imp (fun h => Int.mul_le_mul_of_nonneg_right h hm)
theorem cmf {rs : List (Int × Int)} (h : ¬ cm 1 rs = 0) : (∀ r ∈ rs, fitR r ∧ r.2 ∣ cm 1 rs) ∧ 1 ≤ cm 1 rs ∧ cm 1 rs ≤ 10000 := by
  obtain ⟨a, b, c, d⟩ := cm_facts rs 1 (by omega) h
  exact ⟨a, c, d⟩
/-- Equal awards are more equal than any awards. -/
theorem me_aw {cs : List Int} {e : Int} (hc : CE cs e) {rs : List (Int × Int)} (hr : chE cs e rs = 0) : meE ((aw cs e).map rp) rs = 0 ∧ meB ((aw cs e).map rp) rs = true := by
  obtain ⟨_, n1, l1, o1, s1⟩ := chE_0.1 (aw_ok hc)
  obtain ⟨_, n2, l2, o2, s2⟩ := chE_0.1 hr
  have hl8 := hc.ok.l8
  have hl1 := hc.ok.l1
  have hox : okQ ((aw cs e).map rp) := ⟨n1, by omega, by omega⟩
  have hoy : okQ rs := ⟨n2, by omega, by omega⟩
  have hsum : (oX ((aw cs e).map rp)).sum * cm 1 rs = (oX rs).sum * cm 1 ((aw cs e).map rp) := by
    unfold oX
    rw [s1, s2, Int.mul_assoc, Int.mul_assoc, Int.mul_comm (cm 1 rs)]
  have hE := meE_0 ⟨hox, hoy⟩ ⟨by omega, hsum⟩
  refine ⟨hE, ?_⟩
  unfold meB
  refine decide_eq_true ⟨hE, ?_⟩
  intro j hj
  obtain ⟨f1, g1, _⟩ := cmf n1
  obtain ⟨f2, g2, _⟩ := cmf n2
  have hx1 : oX ((aw cs e).map rp) = cs.map (fun c => (mnq c (lv cs e)).num * (cm 1 ((aw cs e).map rp) / (mnq c (lv cs e)).den)) := by
    unfold oX
    rw [ov_rp]
    unfold aw capL
    rw [List.map_map]
    rfl
  have hdv : ∀ c ∈ cs, ((mnq c (lv cs e)).den : Int) ∣ cm 1 ((aw cs e).map rp) := by
    intro c hcm
    exact (f1 (rp (mnq c (lv cs e))) (List.mem_map_of_mem (List.mem_map_of_mem hcm))).2
  generalize cm 1 ((aw cs e).map rp) = D1 at *
  have hy2 : oX rs = ov (cm 1 rs) rs := rfl
  have hyl : (oX rs).length = cs.length := by rw [hy2, ov_len, l2]
  rw [← hy2] at o2
  generalize cm 1 rs = D2 at *
  generalize oX rs = Y at *
  generalize oX ((aw cs e).map rp) = X at *
  have hxl : X.length = cs.length := by rw [hx1]; simp
  have key := dom (U := X.map (· * D2)) (V := Y.map (· * D1)) (by simp [hxl, hyl]) (by rw [map_mul_sum, map_mul_sum]; exact hsum) ?_ (k := j) (by rw [List.length_map, hyl, ← aw_len cs e]; simpa using hj)
  · rw [srt_mul (by omega), srt_mul (by omega), ← List.map_take, ← List.map_take, map_mul_sum, map_mul_sum] at key
    exact key
  · intro T
    have hD1 := cast_pos (show 0 < D1 by omega)
    have hD2 := cast_pos (show 0 < D2 by omega)
    by_cases hT : (T : Rat) ≤ lv cs e * ((D1 : Rat) * (D2 : Rat))
    · left
      intro z hz
      obtain ⟨i, hi⟩ := List.mem_iff_getElem?.1 hz
      rw [List.getElem?_zip_eq_some, List.getElem?_map, List.getElem?_map] at hi
      obtain ⟨h1, h2⟩ := hi
      have hic : i < cs.length := by
        rcases Nat.lt_or_ge i cs.length with h | h
        · exact h
        · rw [List.getElem?_eq_none (by omega)] at h1
          simp at h1
      have hg : cs[i]? = some cs[i] := List.getElem?_eq_getElem hic
      have hcm : cs[i] ∈ cs := List.getElem_mem hic
      have hgy : Y[i]? = some (Y[i]'(by omega)) := List.getElem?_eq_getElem (by omega)
      rw [hx1, List.getElem?_map, hg] at h1
      rw [hgy] at h2
      have h1 : (mnq cs[i] (lv cs e)).num * (D1 / (mnq cs[i] (lv cs e)).den) * D2 = z.1 := by simpa using h1
      have h2 : Y[i]'(by omega) * D1 = z.2 := by simpa using h2
      rw [← h1, ← h2]
      have hq := ovq (hdv _ hcm)
      have hyc : ¬ cs[i] * D2 < Y[i]'(by omega) := fun hh => by
        have := ovr_at hg hgy hh
        rw [this] at o2
        cases o2
      generalize Y[i]'(by omega) = y at *
      generalize cs[i] = c at *
      by_cases hcl : (c : Rat) < lv cs e
      · right
        have hm : mnq c (lv cs e) = (c : Rat) := mnq_c (Rat.le_of_lt hcl)
        rw [hm] at hq ⊢
        rw [← Rat.intCast_mul, Rat.intCast_inj] at hq
        rw [hq, Int.mul_assoc, Int.mul_comm D1, ← Int.mul_assoc]
        exact Int.mul_le_mul_of_nonneg_right (by omega) (by omega)
      · left
        have hm : mnq c (lv cs e) = lv cs e := mnq_l (Rat.not_lt.1 hcl)
        rw [hm] at hq ⊢
        refine Rat.intCast_le_intCast.1 ?_
        rw [Rat.intCast_mul, hq, Rat.mul_assoc]
        exact hT
    · right
      intro u hu
      obtain ⟨x, hx, rfl⟩ := List.mem_map.1 hu
      rw [hx1] at hx
      obtain ⟨c, hcm, rfl⟩ := List.mem_map.1 hx
      have hq := ovq (hdv _ hcm)
      refine Rat.intCast_le_intCast.1 ?_
      rw [Rat.intCast_mul, hq, Rat.mul_assoc]
      refine Rat.le_trans (Rat.mul_le_mul_of_nonneg_right (mnq_le c (lv cs e)).1 (Rat.le_of_lt (Rat.mul_pos hD1 hD2))) ?_
      exact Rat.le_of_lt (Rat.not_le.1 hT)
/-- What is lost by accepted awards is accepted for what is lost by all. -/
theorem ls_ok {cs : List Int} {e : Int} (hc : CE cs e) {rs : List (Int × Int)} (hr : chE cs e rs = 0) : chE cs (cs.sum - e) ((lsL cs rs).map rp) = 0 := by
  obtain ⟨_, n2, l2, o2, s2⟩ := chE_0.1 hr
  obtain ⟨f2, g2, g3⟩ := cmf n2
  refine chE_ok hc.sub (E := cm 1 rs) ⟨g2, g3⟩ (by simp [lsL, l2]) (fun q hq => ?_) (fun z hz => ?_) ?_
  · unfold lsL at hq
    obtain ⟨z, hz, rfl⟩ := List.mem_map.1 hq
    obtain ⟨hzc, hzr⟩ := List.of_mem_zip (a := z.1) (b := z.2) hz
    obtain ⟨hf, hd⟩ := f2 _ hzr
    have hd1 : (0 : Int) < z.2.2 := by have := hf.1; omega
    refine ⟨Int.dvd_trans (div_den hd1) hd, div_ge0 (cast_pos hd1) (cast_nonneg ?_)⟩
    obtain ⟨i, hi⟩ := List.mem_iff_getElem?.1 hz
    rw [List.getElem?_zip_eq_some] at hi
    have hgo : (ov (cm 1 rs) rs)[i]? = some (z.2.1 * (cm 1 rs / z.2.2)) := by
      unfold ov
      rw [List.getElem?_map, hi.2]
      rfl
    have hyc : ¬ z.1 * cm 1 rs < z.2.1 * (cm 1 rs / z.2.2) := fun hh => by
      have := ovr_at hi.1 hgo hh
      rw [this] at o2
      cases o2
    obtain ⟨k, hk⟩ := hd
    have hk0 : 0 < k := by
      rcases Int.lt_or_le 0 k with h | h
      · exact h
      · have := Int.mul_nonneg (show 0 ≤ z.2.2 by omega) (show 0 ≤ -k by omega)
        rw [Int.mul_neg] at this
        omega
    rw [hk, Int.mul_ediv_cancel_left _ (by omega), ← Int.mul_assoc, Int.not_lt] at hyc
    have := Int.le_of_mul_le_mul_right hyc hk0
    omega
  · unfold lsL at hz
    obtain ⟨i, hi⟩ := List.mem_iff_getElem?.1 hz
    rw [List.getElem?_zip_eq_some, List.getElem?_map] at hi
    obtain ⟨h1, h2⟩ := hi
    cases hw : (cs.zip rs)[i]? with
    | none => rw [hw] at h2; cases h2
    | some w =>
      rw [hw] at h2
      have h2 : lsq w.1 w.2 = z.2 := by simpa using h2
      rw [List.getElem?_zip_eq_some] at hw
      rw [hw.1] at h1
      have h1 : w.1 = z.1 := by simpa using h1
      obtain ⟨hf, _⟩ := f2 _ (List.mem_of_getElem? hw.2)
      have hd1 : (0 : Int) < w.2.2 := by have := hf.1; omega
      have hn := hf.2.1.1
      rw [← h2, ← h1]
      refine div_le (cast_pos hd1) ?_
      rw [← Rat.intCast_mul]
      exact Rat.intCast_le_intCast.2 (by omega)
  · have key : ∀ (cs : List Int) (rs : List (Int × Int)), rs.length = cs.length → (∀ r ∈ rs, fitR r ∧ r.2 ∣ cm 1 rs) → True := fun _ _ _ _ => trivial
    have hD := cast_pos (show 0 < cm 1 rs by omega)
    have hz : ∀ (D : Int) (cs : List Int) (rs : List (Int × Int)), 0 < D → rs.length = cs.length → (∀ r ∈ rs, fitR r ∧ r.2 ∣ D) → (lsL cs rs).sum * (D : Rat) = ((cs.sum * D - (ov D rs).sum : Int) : Rat) := by
      intro D cs
      induction cs with
      | nil =>
        intro rs hD hl hf
        have : rs = [] := List.length_eq_zero_iff.1 (by simpa using hl)
        subst this
        simp only [lsL, ov, List.zip_nil_left, List.map_nil, List.sum_nil, Rat.zero_mul]
        simp
      | cons c cs ih =>
        intro rs hD hl hf
        match rs, hl with
        | r :: rs, hl =>
          have h1 := ih rs hD (by simpa using hl) (fun x hx => hf x (by simp [hx]))
          obtain ⟨hf1, k, hk⟩ := hf r (by simp)
          have hd1 : (0 : Int) < r.2 := by have := hf1.1; omega
          have e1 : lsL (c :: cs) (r :: rs) = lsq c r :: lsL cs rs := rfl
          have e2 : ov D (r :: rs) = r.1 * (D / r.2) :: ov D rs := rfl
          rw [e1, e2, List.sum_cons, List.sum_cons, List.sum_cons, Rat.add_mul, h1]
          have e3 : lsq c r * (D : Rat) = ((c * D - r.1 * (D / r.2) : Int) : Rat) := by
            unfold lsq
            rw [hk, Int.mul_ediv_cancel_left _ (by omega), Rat.intCast_mul, ← Rat.mul_assoc, Rat.div_mul_cancel (cast_ne (by omega)), ← Rat.intCast_mul]
            congr 1
            rw [Int.sub_mul, Int.mul_assoc]
          rw [e3, ← Rat.intCast_add]
          congr 1
          rw [Int.add_mul]
          omega
    have h3 := hz (cm 1 rs) cs rs (by omega) l2 f2
    rw [s2, ← Int.sub_mul, Rat.intCast_mul] at h3
    exact cancel hD h3
end Go.Proofs.Ytdcdjhhjlpegjaa

namespace Go.Proofs.Ytdcdjhhjlpegjaa
open Go Go.Eng
section
variable {cs : List Int} {rs : List (Int × Int)} {v u : AV} {A : AHeap} {e : Int}
set_option maxRecDepth 20000 in
set_option maxHeartbeats 8000000 in
theorem s13 (hx : L1 A v cs) (hr : L2 A u rs) : ACalls Try.prog 13 [.agg [v, I e], u] A (B true) A := by
  refine acalls hmix Try.func13 (by kernel_rfl) t13 2 rfl (by decide) ?_
  dsimp only [m13]
  simp (maxSteps := 4000000) -implicitDefEqProofs -dsimp (disch := omega) only [↓AW_ops, ↓AW_seq, ↓AOps_nil, ↓AOps_pu, ↓AOps_call, on_some, ↓then_normal, pval, rd_S, rd_C, put_S, chkd, bgot, AV.cells?, partA, eq_self, List.replicate_succ, List.replicate_zero, List.set_cons_zero, List.set_cons_succ, List.getElem?_cons_zero, List.getElem?_cons_succ, List.drop_zero, List.take_succ_cons, List.take_nil, Option.getD_some, map_c, map_n, List.length_cons, List.length_nil, Nat.reduceAdd, Nat.reduceSub, Nat.reduceLeDiff, Nat.reduceEqDiff, Nat.zero_add, List.cons_append, List.nil_append, if_true, if_false]
  refine CallK.of (s15 hx) ?_
  by_cases h1 : (40 : Int) < cs.length
  · simp (maxSteps := 4000000) -implicitDefEqProofs -dsimp (disch := omega) only [↓AW_ops, ↓AW_seq, ↓AW_cond, ↓AOps_nil, ↓AOps_pu, ↓AOps_call, ↓AOps_guard, on_some, extK_same, guardB_tf, skipS_some, condB_t, ↓then_normal, pval, rd_S, rd_C, put_S, eq_self, List.replicate_succ, List.replicate_zero, List.set_cons_zero, List.set_cons_succ, List.getElem?_cons_zero, List.getElem?_cons_succ, Option.getD_some, map_n, Nat.reduceSub, List.cons_append, List.nil_append, if_true, decide_true, h1]
    refine CallK.of (known A) ?_
    simp (maxSteps := 4000000) -implicitDefEqProofs -dsimp (disch := omega) only [↓AW_ret, ↓AOps_nil, ↓AOps_pu, on_some, extK_same, skipS_some, ↓then_normal, ↓then_ret, ↓Fin_ret, pval, rd_S, put_S, resV, resL, List.replicate_succ, List.replicate_zero, List.set_cons_zero, List.set_cons_succ, List.getElem?_cons_zero, List.getElem?_cons_succ, Option.getD_some, Nat.reduceSub, List.cons_append, List.nil_append]
    exact gc_same rfl
  by_cases h2 : (40 : Int) < rs.length
  · simp (maxSteps := 4000000) -implicitDefEqProofs -dsimp (disch := omega) only [↓AW_ops, ↓AW_seq, ↓AW_cond, ↓AOps_nil, ↓AOps_pu, ↓AOps_call, ↓AOps_guard, on_some, extK_same, guardB_tf, guardB_ff, skipS_some, condB_t, ↓then_normal, pval, rd_S, rd_C, put_S, eq_self, List.replicate_succ, List.replicate_zero, List.set_cons_zero, List.set_cons_succ, List.getElem?_cons_zero, List.getElem?_cons_succ, Option.getD_some, map_n, Nat.reduceSub, List.cons_append, List.nil_append, bin_gtr, if_true, if_false, Bool.false_eq_true, decide_true, decide_false, h1, hr.len, h2]
    refine CallK.of (known A) ?_
    simp (maxSteps := 4000000) -implicitDefEqProofs -dsimp (disch := omega) only [↓AW_ret, ↓AOps_nil, ↓AOps_pu, on_some, extK_same, skipS_some, ↓then_normal, ↓then_ret, ↓Fin_ret, pval, rd_S, put_S, resV, resL, List.replicate_succ, List.replicate_zero, List.set_cons_zero, List.set_cons_succ, List.getElem?_cons_zero, List.getElem?_cons_succ, Option.getD_some, Nat.reduceSub, List.cons_append, List.nil_append]
    exact gc_same rfl
  have hl : cs.length ≤ 1000000 := by omega
  have hl2 : rs.length ≤ 1000000 := by omega
  simp (maxSteps := 4000000) -implicitDefEqProofs -dsimp (disch := omega) only [↓AOps_pu, ↓AOps_call, ↓AOps_guard, on_some, extK_same, guardB_ff, pval, rd_S, rd_C, put_S, chkd, isAdr, bgot, AV.cells?, partA, eq_self, List.replicate_succ, List.replicate_zero, List.set_cons_zero, List.set_cons_succ, List.getElem?_cons_zero, List.getElem?_cons_succ, List.drop_zero, List.drop_succ_cons, List.take_zero, List.take_succ_cons, List.take_nil, Option.getD_some, map_c, map_n, List.length_cons, List.length_nil, Nat.reduceAdd, Nat.reduceSub, Nat.reduceLeDiff, Nat.zero_add, List.cons_append, List.nil_append, bin_gtr, if_true, if_false, Bool.false_eq_true, decide_false, h1, hr.len, h2]
  refine CallK.of (s36 (e := e) hx hr hl hl2) ?_
  by_cases h0 : chE cs e rs = 0
  case neg =>
    simp (maxSteps := 4000000) -implicitDefEqProofs -dsimp (disch := omega) only [↓AW_ops, ↓AW_seq, ↓AW_cond, ↓AOps_nil, ↓AOps_pu, ↓AOps_call, ↓AOps_guard, on_some, extK_same, guardB_ff, condB_t, ↓then_normal, pval, rd_S, rd_C, put_S, List.replicate_succ, List.replicate_zero, List.set_cons_zero, List.set_cons_succ, List.getElem?_cons_zero, List.getElem?_cons_succ, Option.getD_some, map_n, Nat.reduceSub, List.cons_append, List.nil_append, bin_neq, if_false, Bool.false_eq_true, decide_true, not_false_eq_true, h0]
    refine CallK.of (known A) ?_
    simp (maxSteps := 4000000) -implicitDefEqProofs -dsimp (disch := omega) only [↓AW_ret, ↓AOps_nil, ↓AOps_pu, on_some, extK_same, ↓then_normal, ↓then_ret, ↓Fin_ret, pval, rd_S, put_S, resV, resL, List.replicate_succ, List.replicate_zero, List.set_cons_zero, List.set_cons_succ, List.getElem?_cons_zero, List.getElem?_cons_succ, Option.getD_some, Nat.reduceSub, List.cons_append, List.nil_append]
    exact gc_same rfl
  have hc := (chE_0.1 h0).1
  simp (maxSteps := 4000000) -implicitDefEqProofs -dsimp (disch := omega) only [↓AW_skip, ↓AW_ops, ↓AW_seq, ↓AW_cond, ↓AOps_nil, ↓AOps_pu, ↓AOps_call, ↓AOps_guard, on_some, extK_same, guardB_ff, condB_f, ↓then_normal, pval, rd_S, rd_C, put_S, chkd, isAdr, bgot, AV.cells?, partA, eq_self, List.replicate_succ, List.replicate_zero, List.set_cons_zero, List.set_cons_succ, List.getElem?_cons_zero, List.getElem?_cons_succ, List.drop_zero, List.drop_succ_cons, List.take_zero, List.take_succ_cons, List.take_nil, Option.getD_some, map_c, map_n, List.length_cons, List.length_nil, Nat.reduceAdd, Nat.reduceSub, Nat.reduceLeDiff, Nat.zero_add, List.cons_append, List.nil_append, bin_neq, if_true, if_false, Bool.false_eq_true, decide_false, not_true_eq_false, h0]
  obtain ⟨v1, A1, c1, p1, q1⟩ := r_aw hx hl hc
  refine CallK.of c1 ?_
  simp (maxSteps := 4000000) -implicitDefEqProofs -dsimp (disch := omega) only [↓AW_ops, ↓AW_seq, ↓AOps_nil, ↓AOps_pu, ↓AOps_call, on_some, extK_false, ↓then_normal, pval, rd_S, put_S, List.replicate_succ, List.replicate_zero, List.set_cons_zero, List.set_cons_succ, List.getElem?_cons_zero, List.getElem?_cons_succ, Option.getD_some, map_c, map_n, Nat.reduceSub, List.cons_append, List.nil_append]
  obtain ⟨m1, m2⟩ := me_aw hc h0
  refine CallK.of (s39 q1 (hr.mono p1) (by rw [ln, aw_len]; omega) hl2) ?_
  rw [m1, m2]
  simp (maxSteps := 4000000) -implicitDefEqProofs -dsimp (disch := omega) only [↓AW_ops, ↓AW_seq, ↓AOps_nil, ↓AOps_pu, ↓AOps_call, on_some, extK_same, ↓then_normal, pval, rd_S, put_S, chkd, isAdr, bgot, AV.cells?, partA, eq_self, List.replicate_succ, List.replicate_zero, List.set_cons_zero, List.set_cons_succ, List.getElem?_cons_zero, List.getElem?_cons_succ, List.drop_zero, List.drop_succ_cons, List.take_zero, List.take_succ_cons, List.take_nil, Option.getD_some, map_c, map_n, List.length_cons, List.length_nil, Nat.reduceAdd, Nat.reduceSub, Nat.reduceLeDiff, Nat.zero_add, List.cons_append, List.nil_append, if_true, if_false, Bool.false_eq_true]
  obtain ⟨v2, A2, c2, p2, q2⟩ := r_lo (hx.mono p1) hl hc
  have P2 := p1.trans p2
  refine CallK.of c2 ?_
  simp (maxSteps := 4000000) -implicitDefEqProofs -dsimp (disch := omega) only [↓AW_ops, ↓AW_seq, ↓AOps_nil, ↓AOps_pu, ↓AOps_call, on_some, extK_false, ↓then_normal, pval, rd_S, put_S, chkd, isAdr, bgot, AV.cells?, partA, eq_self, List.replicate_succ, List.replicate_zero, List.set_cons_zero, List.set_cons_succ, List.getElem?_cons_zero, List.getElem?_cons_succ, List.drop_zero, List.drop_succ_cons, List.take_zero, List.take_succ_cons, List.take_nil, Option.getD_some, map_c, map_n, List.length_cons, List.length_nil, Nat.reduceAdd, Nat.reduceSub, Nat.reduceLeDiff, Nat.zero_add, List.cons_append, List.nil_append, if_true, if_false, Bool.false_eq_true]
  obtain ⟨v3, A3, c3, p3, q3⟩ := r_ls (hx.mono P2) q2 hl (lo_ok hc)
  have E3 : lsL cs ((lo cs e).map rp) = aw cs (cs.sum - e) := by
    rw [lo_eq, lsL_map]
    unfold aw capL
    refine List.map_congr_left (fun c _ => ?_)
    grind
  rw [E3] at q3
  have P3 := P2.trans p3
  refine CallK.of c3 ?_
  simp (maxSteps := 4000000) -implicitDefEqProofs -dsimp (disch := omega) only [↓AW_ops, ↓AW_seq, ↓AOps_nil, ↓AOps_pu, ↓AOps_call, on_some, extK_false, ↓then_normal, pval, rd_S, put_S, chkd, isAdr, bgot, AV.cells?, partA, eq_self, List.replicate_succ, List.replicate_zero, List.set_cons_zero, List.set_cons_succ, List.getElem?_cons_zero, List.getElem?_cons_succ, List.drop_zero, List.drop_succ_cons, List.take_zero, List.take_succ_cons, List.take_nil, Option.getD_some, map_c, map_n, List.length_cons, List.length_nil, Nat.reduceAdd, Nat.reduceSub, Nat.reduceLeDiff, Nat.zero_add, List.cons_append, List.nil_append, if_true, if_false, Bool.false_eq_true]
  obtain ⟨v4, A4, c4, p4, q4⟩ := r_ls (hx.mono P3) (hr.mono P3) hl h0
  have P4 := P3.trans p4
  refine CallK.of c4 ?_
  simp (maxSteps := 4000000) -implicitDefEqProofs -dsimp (disch := omega) only [↓AW_ops, ↓AW_seq, ↓AOps_nil, ↓AOps_pu, ↓AOps_call, on_some, extK_false, ↓then_normal, pval, rd_S, put_S, List.replicate_succ, List.replicate_zero, List.set_cons_zero, List.set_cons_succ, List.getElem?_cons_zero, List.getElem?_cons_succ, Option.getD_some, map_c, map_n, Nat.reduceSub, List.cons_append, List.nil_append]
  obtain ⟨m3, m4⟩ := me_aw hc.sub (ls_ok hc h0)
  have hle := (chE_0.1 h0).2.2.1
  refine CallK.of (s39 (q3.mono p4) q4 (by rw [ln, aw_len]; omega) (by rw [lsL_len hle]; omega)) ?_
  rw [m3, m4]
  simp (maxSteps := 4000000) -implicitDefEqProofs -dsimp (disch := omega) only [↓AW_ops, ↓AW_seq, ↓AOps_nil, ↓AOps_pu, ↓AOps_call, ↓AOps_guard, on_some, extK_same, guardB_tt, ↓then_normal, pval, rd_S, rd_C, put_S, eq_self, List.replicate_succ, List.replicate_zero, List.set_cons_zero, List.set_cons_succ, List.getElem?_cons_zero, List.getElem?_cons_succ, Option.getD_some, map_n, Nat.reduceSub, List.cons_append, List.nil_append, bin_eql, if_true, decide_true]
  refine CallK.of (known A4) ?_
  simp (maxSteps := 4000000) -implicitDefEqProofs -dsimp (disch := omega) only [↓AW_ret, ↓AOps_nil, ↓AOps_pu, on_some, extK_same, ↓then_normal, ↓Fin_ret, pval, rd_S, rd_C, put_S, resV, resL, eq_self, List.replicate_succ, List.replicate_zero, List.set_cons_zero, List.set_cons_succ, List.getElem?_cons_zero, List.getElem?_cons_succ, Option.getD_some, Nat.reduceSub, List.cons_append, List.nil_append, if_true]
  exact gc_val P4 rfl
end
end Go.Proofs.Ytdcdjhhjlpegjaa

