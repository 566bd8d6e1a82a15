/- What the law's proof rests on, part 5: for all that is said in each line. No conditions. -/
import Derived.Test.YtdcdjhhjlpegjaaClB
namespace Go.Proofs.Ytdcdjhhjlpegjaa
open Go Go.Eng
/-- A list that grows, or that has room and no element yet. -/
def NS (A H : AHeap) (v : AV) (xs : List Int) : Prop :=
  AccL 1 e1 A H v xs ∨ (xs = [] ∧ A <+: H ∧ ∃ n l, v = .sl 1 n 0 0 false ∧ A.length ≤ n ∧ H[n]? = some (.cells true l))
theorem NS.pre {A H : AHeap} {v : AV} {xs : List Int} (h : NS A H v xs) : A <+: H := by
  rcases h with h | h
  · exact AccL.pre h
  · exact h.2.1
theorem NS.ls {A H : AHeap} {v : AV} {xs : List Int} (h : NS A H v xs) : L1 H v xs := by
  rcases h with h | ⟨rfl, _, n, l, rfl, _, hg⟩
  · exact AccL_ls h e1_len
  · exact ⟨e1_len, by simp [slCells, cellsAt, hg]⟩
theorem NS.push {A H : AHeap} {v y : AV} {xs ys : List Int} (h : NS A H v xs) (hy : L1 H y ys) (hl : xs.length + ys.length ≤ lim) : ∃ v' H', appA 1 H v y = some (v', H') ∧ NS A H' v' (xs ++ ys) := by
  rcases h with h | ⟨rfl, hp, n, l, rfl, hn, hg⟩
  · obtain ⟨v', H', h1, h2⟩ := h.pushes hy hl
    exact ⟨v', H', h1, .inl h2⟩
  · have hc := hy.hc
    by_cases h0 : ys.length = 0
    · have : ys = [] := List.eq_nil_of_length_eq_zero h0
      subst this
      refine ⟨.sl 1 n 0 0 false, H, ?_, .inr ⟨rfl, hp, n, l, rfl, hn, hg⟩⟩
      unfold appA
      rw [hc]
      simp
    · have hlim : ys.length ≤ lim := by simpa using hl
      refine ⟨.sl 1 H.length 0 ys.length false, H.set n .dead ++ [.cells true (ys.flatMap e1)], ?_, .inl ⟨(pre_set hp hn _).trans (pre_app _ _), ?_, .inr ⟨by simpa using (by omega : 0 < ys.length), H.length, by simp, hp.length_le, by simp⟩⟩⟩
      · unfold appA
        rw [hc]
        simp [h0, hlim, hg]
      · simpa using flatMap_length e1_len ys
theorem c_Grow (n : Nat) (hn : n ≤ 1000) (A : AHeap) : ∃ v H, ACalls Try.prog 86 [.nilS, I n] A v H ∧ NS A H v [] := by
  by_cases h0 : n = 0
  · subst h0
    refine ⟨.nilS, A, ?_, .inl (AccL.nil (List.prefix_refl _))⟩
    refine acalls hmix Try.func86 (by kernel_rfl) t86 2 rfl (by decide) ?_
    dsimp only [m86]
    simp (maxSteps := 4000000) -implicitDefEqProofs -dsimp (disch := omega) only [↓AW_skip, ↓AW_ops, ↓AW_seq, ↓AW_cond, ↓AW_ret, ↓AOps_nil, ↓AOps_pu, on_some, condB_f, ↓then_normal, ↓Fin_ret, pval, rd_S, rd_C, put_S, resV, resL, List.replicate_succ, List.replicate_zero, List.set_cons_zero, List.set_cons_succ, List.getElem?_cons_zero, List.getElem?_cons_succ, Option.getD_some, Nat.reduceSub, List.cons_append, List.nil_append, bin_sub, bin_lss, bin_gtr, w64, decide_false, Int.reduceLT, Int.reduceSub, capA, lenA, show ((0 : Nat) : Int) = 0 from rfl]
    exact gc_same rfl
  · refine ⟨.sl 1 A.length 0 0 false, A ++ [.cells true (repl [I 0] n)], ?_, .inr ⟨rfl, pre_app _ _, A.length, repl [I 0] n, rfl, Nat.le_refl _, by simp⟩⟩
    refine acalls hmix Try.func86 (by kernel_rfl) t86 2 rfl (by decide) ?_
    have h1 : ¬ (n : Int) < 0 := by omega
    have h2 : (0 : Int) < n := by omega
    have h3 : (0 : Int) < n ∧ (n : Int) ≤ ((lim : Nat) : Int) := by unfold lim; omega
    have h4 : slcA 1 .nilS none (some (.int .i64 0)) none = some .nilS := rfl
    have h5 : slcA 1 (.sl 1 A.length 0 n false) none (some (.int .i64 0)) none = some (.sl 1 A.length 0 0 false) := by simp [slcA, bnd]
    dsimp only [m86]
    simp (maxSteps := 4000000) -implicitDefEqProofs -dsimp (disch := omega) only [↓AW_skip, ↓AW_ops, ↓AW_seq, ↓AW_cond, ↓AW_ret, ↓AOps_nil, ↓AOps_pu, ↓AOps_ha, on_some, extK_app, condB_t, condB_f, ↓then_normal, ↓Fin_ret, pval, hval, rd_S, rd_C, put_S, resV, resL, List.replicate_succ, List.replicate_zero, List.set_cons_zero, List.set_cons_succ, List.getElem?_cons_zero, List.getElem?_cons_succ, Option.getD_some, Option.map_some, Option.map_none, Nat.reduceSub, List.cons_append, List.nil_append, bin_sub, bin_lss, bin_gtr, w64, if_true, decide_true, decide_false, and_true, capA, appzA, lenA, h1, Int.sub_zero, Int.sub_self, h2, h4, appzA, h3, Int.toNat_natCast, h5]
    exact gc_all
def catZ (zs : List (AV × List Int)) : List Int := zs.flatMap Prod.snd
def lenZ (zs : List (AV × List Int)) : Int := (zs.map fun z => (z.2.length : Int)).sum
theorem catZ_take {zs : List (AV × List Int)} {i : Nat} {z : AV × List Int} (hz : zs[i]? = some z) : catZ (zs.take (i + 1)) = catZ (zs.take i) ++ z.2 := by
  rw [List.take_add_one, hz]; simp [catZ]
theorem lenZ_take {zs : List (AV × List Int)} {i : Nat} {z : AV × List Int} (hz : zs[i]? = some z) : lenZ (zs.take (i + 1)) = lenZ (zs.take i) + z.2.length := by
  rw [List.take_add_one, hz]; simp [lenZ]
theorem lenZ_bound : ∀ {zs : List (AV × List Int)}, (∀ z ∈ zs, z.2.length ≤ 100) → 0 ≤ lenZ zs ∧ lenZ zs ≤ 100 * zs.length ∧ ((catZ zs).length : Int) = lenZ zs
  | [], _ => by simp [lenZ, catZ]
  | z :: zs, h => by
    have ih := lenZ_bound (zs := zs) (fun y hy => h y (by simp [hy]))
    have hz := h z (by simp)
    have q1 : lenZ (z :: zs) = z.2.length + lenZ zs := by simp [lenZ]
    have q2 : (catZ (z :: zs)).length = z.2.length + (catZ zs).length := by simp [catZ]
    rw [q1, q2, List.length_cons]
    omega
def eS (z : AV × List Int) : List AV := [z.1]
theorem eS_len (z : AV × List Int) : (eS z).length = 1 := rfl
theorem c_Concat {zs : List (AV × List Int)} {u : AV} {A : AHeap} (hz0 : Ls 1 eS A u zs) (hin : ∀ z ∈ zs, L1 A z.1 z.2) (hl : zs.length ≤ 8) (hb : ∀ z ∈ zs, z.2.length ≤ 100) :
    ∃ r H, ACalls Try.prog 77 [u] A r H ∧ A <+: H ∧ L1 H r (catZ zs) := by
  refine acallsR hmix Try.func77 (by kernel_rfl) t77 _ 1 rfl (by decide) ?_
  have hbt : ∀ i, 0 ≤ lenZ (zs.take i) ∧ lenZ (zs.take i) ≤ 800 := fun i => by
    have := lenZ_bound (zs := zs.take i) (fun z hz => hb z (List.mem_of_mem_take hz))
    rw [List.length_take] at this
    omega
  dsimp only [m77]
  simp (maxSteps := 4000000) -implicitDefEqProofs -dsimp (disch := omega) only [↓AW_ops, ↓AW_seq, ↓AW_block, ↓AOps_nil, ↓AOps_pu, on_some, ↓then_normal, pval, rd_S, rd_C, put_S, ↓AW_toLoop, List.replicate_succ, List.replicate_zero, List.set_cons_zero, List.set_cons_succ, List.getElem?_cons_zero, List.getElem?_cons_succ, Option.getD_some, Nat.reduceSub, List.cons_append, List.nil_append, hz0.len]
  refine LoopK.by 36 (fun i : Nat => i ≤ zs.length) (fun i => [(0, u), (3, I (lenZ (zs.take i))), (9, u), (10, I zs.length), (11, I i)]) (fun _ => A) (fun i => zs.length - i) 0 (by omega) rfl (by simp [Has, rd_s, lenZ]) rfl ?_
  intro i hi
  by_cases hlt : i < zs.length
  · obtain ⟨z, hz⟩ : ∃ z, zs[i]? = some z := ⟨_, List.getElem?_eq_getElem hlt⟩
    have hlt' : (i : Int) < zs.length := by omega
    have h1 := hbt i
    have h2 := hbt (i + 1)
    have ht := lenZ_take hz
    have h3 : ¬ lenZ (zs.take i) + z.2.length < 0 := by omega
    simp (maxSteps := 4000000) -implicitDefEqProofs -dsimp (disch := omega) only [↓AW_skip, ↓AW_ops, ↓AW_seq, ↓AW_cond, ↓AW_block, ↓AOps_nil, ↓AOps_pu, ↓AOps_ld, on_some, condB_t, condB_f, ↓then_normal, ↓inBlock_normal, pval, lval, rd_S, rd_C, put_S, partA, eq_self, mk, List.foldl_cons, List.foldl_nil, List.replicate_succ, List.replicate_zero, List.set_cons_zero, List.set_cons_succ, List.getElem?_cons_zero, List.getElem?_cons_succ, List.drop_zero, List.take_succ_cons, List.take_nil, Option.getD_some, List.length_cons, List.length_nil, Nat.reduceAdd, Nat.reduceLeDiff, Nat.zero_add, bin_add, bin_lss, w64, if_true, if_false, Bool.false_eq_true, decide_true, decide_false, true_and, hlt', hz0.idx hlt, hz0.ld0 hz 1 false (by decide), eS, (hin z (List.mem_of_getElem? hz)).len, h3]
    exact ⟨i + 1, hlt, by simp [Has, rd_s, ht], by omega⟩
  have hlt' : ¬ ((i : Int) < zs.length) := by omega
  have h1 := hbt zs.length
  rw [List.take_length] at h1
  rw [List.take_of_length_le (by omega)]
  obtain ⟨N, hN⟩ : ∃ N : Nat, lenZ zs = N := ⟨(lenZ zs).toNat, by omega⟩
  rw [hN] at h1 ⊢
  obtain ⟨v, H, hc, hns⟩ := c_Grow N (by omega) A
  simp (maxSteps := 4000000) -implicitDefEqProofs -dsimp (disch := omega) only [↓AW_ops, ↓AW_seq, ↓AW_cond, ↓AW_exit, ↓AOps_nil, ↓AOps_pu, ↓AOps_call, on_some, condB_f, ↓then_normal, ↓then_exit, ↓inBlock_exit, pval, rd_S, rd_C, put_S, eq_self, mk, List.foldl_cons, List.foldl_nil, List.replicate_succ, List.replicate_zero, List.set_cons_zero, List.set_cons_succ, List.getElem?_cons_zero, List.getElem?_cons_succ, Option.getD_some, map_c, map_n, bin_lss, if_true, decide_false, hlt']
  refine CallK.of (hc) ?_
  simp (maxSteps := 4000000) -implicitDefEqProofs -dsimp (disch := omega) only [↓AW_ops, ↓AW_seq, ↓AW_block, ↓AOps_nil, ↓AOps_pu, on_some, extK_false, ↓then_normal, pval, rd_S, rd_C, put_S, ↓AW_toLoop, mk, List.foldl_cons, List.foldl_nil, List.replicate_succ, List.replicate_zero, List.set_cons_zero, List.set_cons_succ, List.getElem?_cons_zero, List.getElem?_cons_succ, Option.getD_some, hz0.len]
  have hcl : ∀ i, ((catZ (zs.take i)).length : Int) ≤ 800 := fun i => by
    have := lenZ_bound (zs := zs.take i) (fun z hz => hb z (List.mem_of_mem_take hz))
    rw [List.length_take] at this
    omega
  refine LoopK.by 36 (fun x : Nat × AV × AHeap => x.1 ≤ zs.length ∧ NS A x.2.2 x.2.1 (catZ (zs.take x.1))) (fun x => [(6, x.2.1), (25, u), (26, I zs.length), (27, I x.1)]) (fun x => x.2.2) (fun x => zs.length - x.1) (0, v, H) ⟨by simp only; omega, hns⟩ rfl (by simp [Has, rd_s]) rfl ?_
  rintro ⟨j, w, H1⟩ ⟨hj, hw⟩
  simp only at hj hw
  by_cases hlt2 : j < zs.length
  · obtain ⟨z, hz⟩ : ∃ z, zs[j]? = some z := ⟨_, List.getElem?_eq_getElem hlt2⟩
    have hlt2' : (j : Int) < zs.length := by omega
    have hz1 := hz0.mono hw.pre
    have hzl := hb z (List.mem_of_getElem? hz)
    have hc2 := hcl j
    obtain ⟨w', H2, happ, hw'⟩ := hw.push ((hin z (List.mem_of_getElem? hz)).mono hw.pre) (by simp [lim]; omega)
    simp (maxSteps := 4000000) -implicitDefEqProofs -dsimp (disch := omega) only [↓AW_skip, ↓AW_ops, ↓AW_seq, ↓AW_cond, ↓AW_block, ↓AOps_nil, ↓AOps_pu, ↓AOps_ld, ↓AOps_ha, on_some, extK_false, condB_t, ↓then_normal, ↓inBlock_normal, pval, lval, hval_app, rd_S, rd_C, put_S, partA, eq_self, mk, List.foldl_cons, List.foldl_nil, List.replicate_succ, List.replicate_zero, List.set_cons_zero, List.set_cons_succ, List.getElem?_cons_zero, List.getElem?_cons_succ, List.drop_zero, List.take_succ_cons, List.take_nil, Option.getD_some, List.length_cons, List.length_nil, Nat.reduceAdd, Nat.reduceLeDiff, Nat.zero_add, bin_add, bin_lss, w64, if_true, if_false, Bool.false_eq_true, decide_true, true_and, hlt2', hz1.idx hlt2, hz1.ld0 hz 1 false (by decide), eS, happ]
    exact ⟨(j + 1, w', H2), ⟨hlt2, by rw [catZ_take hz]; exact hw'⟩, by simp [Has, rd_s], rfl, by simp only; omega⟩
  · have hlt2' : ¬ ((j : Int) < zs.length) := by omega
    rw [List.take_of_length_le (by omega)] at hw
    simp (maxSteps := 4000000) -implicitDefEqProofs -dsimp (disch := omega) only [↓AW_ops, ↓AW_seq, ↓AW_cond, ↓AW_exit, ↓AW_ret, ↓AOps_nil, ↓AOps_pu, on_some, condB_f, ↓then_normal, ↓then_exit, ↓inBlock_exit, ↓FinR_ret, pval, rd_S, put_S, resV, resL, eq_self, mk, List.foldl_cons, List.foldl_nil, List.replicate_succ, List.replicate_zero, List.set_cons_zero, List.set_cons_succ, List.getElem?_cons_zero, List.getElem?_cons_succ, Option.getD_some, bin_lss, if_true, decide_false, hlt2']
    exact ⟨_, _, gc_all, hw.pre, hw.ls⟩
theorem Ls_cl {α : Type} {es : Nat} {e : α → List AV} {A : AHeap} {u : AV} {xs : List α} (h : Ls es e A u xs) : u.cells? = some [u] := by
  rcases h.inv with ⟨rfl, _⟩ | ⟨n, off, full, rw, l, rfl, _⟩ <;> rfl
theorem cmf2 {rs : List (Int × Int)} (h : ¬ cm 1 rs = 0) : (∀ r ∈ rs, fitR r ∧ r.2 ∣ cm 1 rs) ∧ 1 ≤ cm 1 rs ∧ cm 1 rs ≤ 10000 := by
  obtain ⟨a, b, c, d⟩ := cm_facts rs 1 (by omega) h
  exact ⟨a, c, d⟩
/-- One of a list of fractions. -/
def atR (rs : List (Int × Int)) (i : Nat) : Int × Int := (rs[i]?).getD (0, 1)
def lvE (cs : List Int) (e : Int) (rs : List (Int × Int)) (i : Int) : Int := if chE cs e rs = 0 then (if 0 ≤ i ∧ i < cs.length then 0 else 4) else chE cs e rs
def lvL (cs : List Int) (e : Int) (rs : List (Int × Int)) (i : Int) : List Int := if lvE cs e rs i = 0 then dl cs i.toNat else []
def lvQ (cs : List Int) (e : Int) (rs : List (Int × Int)) (i : Int) : AV := if lvE cs e rs i = 0 then R (lsq e (atR rs i.toNat)) else .agg [I 0, I 0]
theorem lvQ_is (cs : List Int) (e : Int) (rs : List (Int × Int)) (i : Int) : ∃ a b : Int, lvQ cs e rs i = .agg [I a, I b] := by
  unfold lvQ
  split
  · exact ⟨_, _, rfl⟩
  · exact ⟨_, _, rfl⟩
theorem dl_take {xs : List Int} {i j : Nat} {z : Int} (hz : xs[j]? = some z) : dl (xs.take (j + 1)) i = dl (xs.take j) i ++ if j = i then [] else [z] := by
  have hj := (List.getElem?_eq_some_iff.1 hz).1
  have hl : (xs.take j).length = j := by rw [List.length_take]; omega
  rw [List.take_add_one, hz, Option.toList_some]
  generalize xs.take j = ys at *
  unfold dl
  rcases Nat.lt_trichotomy j i with h | h | h
  · rw [if_neg (by omega), List.take_of_length_le (by simp; omega), List.drop_of_length_le (by simp; omega), List.take_of_length_le (by omega), List.drop_of_length_le (by omega)]
    simp
  · subst h
    rw [if_pos rfl, List.take_append_of_le_length (by omega), List.drop_of_length_le (by simp; omega), List.drop_of_length_le (by omega)]
    simp
  · rw [if_neg (by omega), List.take_append_of_le_length (by omega), List.drop_append_of_le_length (by omega), List.append_assoc]
section
variable {cs : List Int} {rs : List (Int × Int)} {v u : AV} {A : AHeap} {e : Int}
/-- What an accepted award is like. -/
theorem ch_at (h : chE cs e rs = 0) {i : Nat} (hi : i < cs.length) : rs.length = cs.length ∧ rs[i]? = some (atR rs i) ∧ CE cs e ∧ (1 ≤ (atR rs i).2 ∧ (atR rs i).2 ≤ 10000) ∧ (0 ≤ (atR rs i).1 ∧ (atR rs i).1 ≤ 10000000) ∧ (atR rs i).1 ≤ e * (atR rs i).2 ∧ (0 ≤ e * (atR rs i).2 ∧ e * (atR rs i).2 ≤ 80000000) := by
  obtain ⟨h0, n2, l2, o2, s2⟩ := chE_0.1 h
  obtain ⟨f2, g2, g3⟩ := cmf2 n2
  have hc := h0
  have hg : rs[i]? = some (atR rs i) := by
    unfold atR
    rw [List.getElem?_eq_getElem (by omega)]
    rfl
  obtain ⟨hf, hd⟩ := f2 _ (List.mem_of_getElem? hg)
  have hb1 := hf.1
  have hb2 := hf.2.1
  have he0 := hc.e0
  have he1 := hc.e1
  have hs := hc.ok.sum
  have m1 := Int.mul_nonneg he0 (show 0 ≤ (atR rs i).2 by omega)
  have m2 := Int.mul_le_mul (show e ≤ 8000 by omega) hb1.2 (by omega) (by omega : (0 : Int) ≤ 8000)
  refine ⟨l2, hg, hc, hb1, hb2, ?_, m1, m2⟩
  have ho : (atR rs i).1 * (cm 1 rs / (atR rs i).2) ∈ ov (cm 1 rs) rs := List.mem_map_of_mem (f := fun r : Int × Int => r.1 * (cm 1 rs / r.2)) (List.mem_of_getElem? hg)
  have hle := mem_sum (cs := ov (cm 1 rs) rs) (fun x hx => by
    obtain ⟨r, hr, rfl⟩ := List.mem_map.1 hx
    exact (ov_bd ⟨by omega, g3⟩ (f2 r hr).1).2.2.1) ho
  rw [s2] at hle
  obtain ⟨k, hk⟩ := hd
  have hk0 : 0 < k := by
    rcases Int.lt_or_le 0 k with h | h
    · exact h
    · have := Int.mul_nonneg (show 0 ≤ (atR rs i).2 by omega) (show 0 ≤ -k by omega)
      rw [Int.mul_neg] at this
      omega
  rw [hk, Int.mul_ediv_cancel_left _ (by omega), ← Int.mul_assoc] at hle
  exact Int.le_of_mul_le_mul_right hle hk0
theorem lvE_ne (h : ¬ chE cs e rs = 0) (i : Int) : lvE cs e rs i = chE cs e rs := if_neg h
theorem lvE_0 (h : chE cs e rs = 0) {i : Nat} (hi : i < cs.length) : lvE cs e rs i = 0 := by
  unfold lvE
  rw [if_pos h, if_pos (by omega)]
theorem lvE_4 (h : chE cs e rs = 0) {i : Int} (hi : ¬ (0 ≤ i ∧ i < cs.length)) : lvE cs e rs i = 4 := by
  unfold lvE
  rw [if_pos h, if_neg hi]
theorem lv_no {n : Int} {i : Int} (h : lvE cs e rs i = n) (h0 : ¬ n = 0) : (AV.tuple [.nilS, .agg [I 0, I 0], I n]) = .tuple [.nilS, lvQ cs e rs i, I (lvE cs e rs i)] ∧ A <+: A ∧ L1 A .nilS (lvL cs e rs i) := by
  refine ⟨?_, List.prefix_refl _, ?_⟩
  · unfold lvQ
    rw [h, if_neg h0]
  · unfold lvL
    rw [h, if_neg h0]
    exact L1_nil A
set_option maxRecDepth 20000 in
set_option maxHeartbeats 8000000 in
theorem s50 (hx : L1 A v cs) (hr : L2 A u rs) (hl : cs.length ≤ 1000000) (hl2 : rs.length ≤ 1000000) (i : Int) :
    ∃ r H, ACalls Try.prog 50 [v, I e, u, I i] A r H ∧ ∃ y, r = .tuple [y, lvQ cs e rs i, I (lvE cs e rs i)] ∧ A <+: H ∧ L1 H y (lvL cs e rs i) := by
  refine acallsR hmix Try.func50 (by kernel_rfl) t50 _ 4 rfl (by decide) ?_
  dsimp only [m50]
  simp (maxSteps := 4000000) -implicitDefEqProofs -dsimp (disch := omega) only [↓AW_ops, ↓AW_seq, ↓AOps_nil, ↓AOps_pu, ↓AOps_call, on_some, ↓then_normal, pval, rd_S, rd_C, put_S, cells_agg, List.replicate_succ, List.replicate_zero, List.set_cons_zero, List.set_cons_succ, List.getElem?_cons_zero, List.getElem?_cons_succ, Option.getD_some, map_c, map_n, Nat.reduceSub, List.cons_append, List.nil_append]
  refine CallK.of (s36 hx hr hl hl2) ?_
  by_cases h0 : chE cs e rs = 0
  case neg =>
    simp (maxSteps := 4000000) -implicitDefEqProofs -dsimp (disch := omega) only [↓AW_ops, ↓AW_seq, ↓AW_cond, ↓AW_ret, ↓AOps_nil, ↓AOps_pu, on_some, extK_same, condB_t, ↓then_normal, ↓then_ret, ↓FinR_ret, pval, rd_S, rd_C, put_S, resV, resL, chkd, bput, bgot, cells_agg, splice, partA, fillA, eq_self, List.replicate_succ, List.replicate_zero, List.set_cons_zero, List.set_cons_succ, List.getElem?_cons_zero, List.getElem?_cons_succ, List.drop_zero, List.drop_succ_cons, List.drop_nil, List.take_zero, List.take_succ_cons, List.take_nil, Option.getD_some, Option.map_some, map_n, List.length_cons, List.length_nil, Nat.reduceAdd, Nat.reduceSub, Nat.reduceLeDiff, Nat.reduceEqDiff, Nat.zero_add, List.cons_append, List.nil_append, List.append_nil, bin_neq, if_true, if_false, decide_true, ne_eq, not_true_eq_false, not_false_eq_true, h0]
    exact ⟨_, _, gc_all, _, lv_no (lvE_ne h0 i) h0⟩
  by_cases h1 : i < 0
  · simp (maxSteps := 4000000) -implicitDefEqProofs -dsimp (disch := omega) only [↓AW_skip, ↓AW_ops, ↓AW_seq, ↓AW_cond, ↓AW_ret, ↓AOps_nil, ↓AOps_pu, ↓AOps_guard, on_some, extK_same, guardB_tf, skipS_some, condB_t, condB_f, ↓then_normal, ↓then_ret, ↓FinR_ret, pval, rd_S, rd_C, put_S, resV, resL, chkd, bput, bgot, cells_agg, splice, partA, fillA, eq_self, List.replicate_succ, List.replicate_zero, List.set_cons_zero, List.set_cons_succ, List.getElem?_cons_zero, List.getElem?_cons_succ, List.drop_zero, List.drop_succ_cons, List.drop_nil, List.take_zero, List.take_succ_cons, List.take_nil, Option.getD_some, Option.map_some, map_n, List.length_cons, List.length_nil, Nat.reduceAdd, Nat.reduceSub, Nat.reduceLeDiff, Nat.reduceEqDiff, Nat.zero_add, List.cons_append, List.nil_append, List.append_nil, bin_neq, bin_lss, if_true, if_false, decide_true, decide_false, ne_eq, not_true_eq_false, h0, h1]
    exact ⟨_, _, gc_all, _, lv_no (lvE_4 h0 (i := i) (by omega)) (by decide)⟩
  by_cases h2 : (cs.length : Int) ≤ i
  · simp (maxSteps := 4000000) -implicitDefEqProofs -dsimp (disch := omega) only [↓AW_skip, ↓AW_ops, ↓AW_seq, ↓AW_cond, ↓AW_ret, ↓AOps_nil, ↓AOps_pu, ↓AOps_guard, on_some, extK_same, guardB_ff, condB_t, condB_f, ↓then_normal, ↓then_ret, ↓FinR_ret, pval, rd_S, rd_C, put_S, resV, resL, chkd, bput, bgot, cells_agg, splice, partA, fillA, eq_self, List.replicate_succ, List.replicate_zero, List.set_cons_zero, List.set_cons_succ, List.getElem?_cons_zero, List.getElem?_cons_succ, List.drop_zero, List.drop_succ_cons, List.drop_nil, List.take_zero, List.take_succ_cons, List.take_nil, Option.getD_some, Option.map_some, map_n, List.length_cons, List.length_nil, Nat.reduceAdd, Nat.reduceSub, Nat.reduceLeDiff, Nat.reduceEqDiff, Nat.zero_add, List.cons_append, List.nil_append, List.append_nil, bin_neq, bin_lss, bin_geq, if_true, if_false, Bool.false_eq_true, decide_true, decide_false, ne_eq, not_true_eq_false, h0, h1, hx.len, h2]
    exact ⟨_, _, gc_all, _, lv_no (lvE_4 h0 (i := i) (by omega)) (by decide)⟩
  obtain ⟨n, rfl⟩ : ∃ n : Nat, i = n := ⟨i.toNat, by omega⟩
  have hn : n < cs.length := by omega
  obtain ⟨hlr, hg, hc, b1, b2, b3, b4⟩ := ch_at h0 hn
  have hn2 : n < rs.length := by omega
  have hl8 := hc.ok.l8
  obtain ⟨v1, hs1, hL1⟩ := Ls_takeS hx n (by omega)
  obtain ⟨v2, hs2, hL2⟩ := Ls_dropS hx (n + 1) (by omega)
  rw [show ((n + 1 : Nat) : Int) = (n : Int) + 1 by omega] at hs2
  have hq1 := Ls_cl hL1
  have hq2 := Ls_cl hL2
  have E0 := lvE_0 h0 hn
  have hQ : lvQ cs e rs n = R (lsq e (atR rs n)) := by
    unfold lvQ
    rw [if_pos E0, Int.toNat_natCast]
  have hLL : lvL cs e rs n = dl cs n := by
    unfold lvL
    rw [if_pos E0, Int.toNat_natCast]
  rw [E0, hQ, hLL]
  generalize atR rs n = r at *
  generalize hm : e * r.2 = m at *
  simp (maxSteps := 4000000) -implicitDefEqProofs -dsimp (disch := omega) only [↓AW_skip, ↓AW_ops, ↓AW_seq, ↓AW_cond, ↓AOps_nil, ↓AOps_pu, ↓AOps_ld, ↓AOps_ha, ↓AOps_call, ↓AOps_guard, on_some, extK_app, extK_same, guardB_ff, condB_f, ↓then_normal, pval, lval, hval_blds, rd_S, rd_C, put_S, chkd, bput, cells_agg, splice, partA, fillA, repl, eq_self, List.replicate_succ, List.replicate_zero, List.set_cons_zero, List.set_cons_succ, List.getElem?_cons_zero, List.getElem?_cons_succ, List.drop_zero, List.drop_succ_cons, List.drop_nil, List.take_zero, List.take_succ_cons, List.take_nil, Option.getD_some, Option.map_some, Option.map_none, map_c, map_n, List.length_cons, List.length_nil, Nat.reduceAdd, Nat.reduceSub, Nat.reduceLeDiff, Nat.reduceEqDiff, Nat.zero_add, List.cons_append, List.nil_append, List.append_nil, bin_add, bin_neq, bin_lss, bin_geq, w64, if_true, if_false, Bool.false_eq_true, decide_false, Go.Eng.e2, and_true, ne_eq, not_true_eq_false, h0, h1, hx.len, h2, hr.idx hn2, hr.ld0 hg 2 true (by decide), hs1, hs2, hq1, hq2, List.replicate_zero, repl]
  have hin : ∀ z ∈ [(v1, cs.take n), (v2, cs.drop (n + 1))], L1 (A ++ [.cells true [v1, v2]]) z.1 z.2 := by
    intro z hz
    rcases List.mem_cons.1 hz with h | h
    · rw [h]; exact hL1.mono (pre_app _ _)
    · rw [List.mem_singleton.1 h]; exact hL2.mono (pre_app _ _)
  have hlz : ∀ z ∈ [(v1, cs.take n), (v2, cs.drop (n + 1))], z.2.length ≤ 100 := by
    intro z hz
    rcases List.mem_cons.1 hz with h | h
    · rw [h]; simp; omega
    · rw [List.mem_singleton.1 h]; simp; omega
  obtain ⟨r3, H3, c3, p3, hM⟩ := c_Concat (u := .sl 1 A.length 0 2 true) (A := A ++ [.cells true [v1, v2]]) (zs := [(v1, cs.take n), (v2, cs.drop (n + 1))]) ⟨eS_len, by simp [slCells, cellsAt, eS]⟩ hin (by simp) hlz
  have hcat : catZ [(v1, cs.take n), (v2, cs.drop (n + 1))] = dl cs n := by simp [catZ, dl]
  rw [hcat] at hM
  refine CallK.of c3 ?_
  simp (maxSteps := 4000000) -implicitDefEqProofs -dsimp (disch := omega) only [↓AOps_pu, ↓AOps_call, on_some, extK_false, pval, rd_S, put_S, chkd, isAdr, bgot, cells_agg, partA, eq_self, List.replicate_succ, List.replicate_zero, List.set_cons_zero, List.set_cons_succ, List.getElem?_cons_zero, List.getElem?_cons_succ, List.drop_zero, List.drop_succ_cons, List.take_zero, List.take_succ_cons, List.take_nil, Option.getD_some, map_c, map_n, List.length_cons, List.length_nil, Nat.reduceAdd, Nat.reduceSub, Nat.reduceLeDiff, Nat.zero_add, List.cons_append, List.nil_append, bin_sub, bin_mul, w64, if_true, if_false, Bool.false_eq_true, hm]
  refine CallK.of (s61 H3 (by omega) (by omega) (by omega)) ?_
  simp (maxSteps := 4000000) -implicitDefEqProofs -dsimp (disch := omega) only [↓AW_ret, ↓AOps_nil, ↓AOps_pu, on_some, extK_same, ↓then_normal, ↓FinR_ret, pval, rd_S, rd_C, put_S, resV, resL, chkd, bput, bgot, cells_agg, splice, partA, eq_self, List.replicate_succ, List.replicate_zero, List.set_cons_zero, List.set_cons_succ, List.getElem?_cons_zero, List.getElem?_cons_succ, List.drop_zero, List.drop_succ_cons, List.drop_nil, List.take_zero, List.take_succ_cons, List.take_nil, Option.getD_some, List.length_cons, List.length_nil, Nat.reduceAdd, Nat.reduceSub, Nat.reduceLeDiff, Nat.reduceEqDiff, Nat.zero_add, List.cons_append, List.nil_append, List.append_nil, if_true, if_false, ne_eq, not_true_eq_false]
  refine ⟨_, _, gc_all, r3, ?_, (pre_app _ _).trans p3, hM⟩
  unfold lsq
  rw [hm]
set_option maxRecDepth 20000 in
set_option maxHeartbeats 8000000 in
theorem s51 (hx : L1 A v cs) (hr : L2 A u rs) (hl : cs.length ≤ 1000000) (hl2 : rs.length ≤ 1000000) (i : Int) :
    ∃ r H, ACalls Try.prog 51 [v, I e, u, I i] A r H ∧ ∃ y, r = .tuple [y, lvQ cs e rs i, I (lvE cs e rs i)] ∧ A <+: H ∧ L1 H y (lvL cs e rs i) := by
  refine acallsR hmix Try.func51 (by kernel_rfl) t51 _ 4 rfl (by decide) ?_
  dsimp only [m51]
  simp (maxSteps := 4000000) -implicitDefEqProofs -dsimp (disch := omega) only [↓AW_ops, ↓AW_seq, ↓AOps_nil, ↓AOps_pu, ↓AOps_call, on_some, ↓then_normal, pval, rd_S, rd_C, put_S, cells_agg, List.replicate_succ, List.replicate_zero, List.set_cons_zero, List.set_cons_succ, List.getElem?_cons_zero, List.getElem?_cons_succ, Option.getD_some, map_c, map_n, Nat.reduceSub, List.cons_append, List.nil_append]
  refine CallK.of (s43 hx hr hl hl2) ?_
  by_cases h0 : chE cs e rs = 0
  case neg =>
    simp (maxSteps := 4000000) -implicitDefEqProofs -dsimp (disch := omega) only [↓AW_ops, ↓AW_seq, ↓AW_cond, ↓AW_ret, ↓AOps_nil, ↓AOps_pu, on_some, extK_same, condB_t, ↓then_normal, ↓then_ret, ↓FinR_ret, pval, rd_S, rd_C, put_S, resV, resL, chkd, bput, bgot, cells_agg, splice, partA, fillA, eq_self, List.replicate_succ, List.replicate_zero, List.set_cons_zero, List.set_cons_succ, List.getElem?_cons_zero, List.getElem?_cons_succ, List.drop_zero, List.drop_succ_cons, List.drop_nil, List.take_zero, List.take_succ_cons, List.take_nil, Option.getD_some, Option.map_some, map_n, List.length_cons, List.length_nil, Nat.reduceAdd, Nat.reduceSub, Nat.reduceLeDiff, Nat.reduceEqDiff, Nat.zero_add, List.cons_append, List.nil_append, List.append_nil, bin_neq, if_true, if_false, decide_true, ne_eq, not_true_eq_false, not_false_eq_true, h0]
    exact ⟨_, _, gc_all, _, lv_no (lvE_ne h0 i) h0⟩
  simp (maxSteps := 4000000) -implicitDefEqProofs -dsimp (disch := omega) only [↓AW_skip, ↓AW_ops, ↓AW_seq, ↓AW_cond, ↓AOps_nil, ↓AOps_pu, ↓AOps_call, on_some, extK_same, condB_f, ↓then_normal, pval, rd_S, rd_C, put_S, eq_self, List.replicate_succ, List.replicate_zero, List.set_cons_zero, List.set_cons_succ, List.getElem?_cons_zero, List.getElem?_cons_succ, Option.getD_some, map_c, map_n, Nat.reduceSub, List.cons_append, List.nil_append, bin_sub, bin_neq, w64, decide_false, not_true_eq_false, h0, hx.len]
  refine CallK.of (c_wi i 0 ((cs.length : Int) - 1) A) ?_
  by_cases h1 : 0 ≤ i ∧ i ≤ (cs.length : Int) - 1
  case neg =>
    simp (maxSteps := 4000000) -implicitDefEqProofs -dsimp (disch := omega) only [↓AW_ops, ↓AW_seq, ↓AW_cond, ↓AW_ret, ↓AOps_nil, ↓AOps_pu, on_some, extK_same, condB_t, ↓then_normal, ↓then_ret, ↓FinR_ret, pval, rd_S, rd_C, put_S, resV, resL, chkd, bput, bgot, cells_agg, splice, partA, fillA, eq_self, List.replicate_succ, List.replicate_zero, List.set_cons_zero, List.set_cons_succ, List.getElem?_cons_zero, List.getElem?_cons_succ, List.drop_zero, List.drop_succ_cons, List.drop_nil, List.take_zero, List.take_succ_cons, List.take_nil, Option.getD_some, Option.map_some, map_n, List.length_cons, List.length_nil, Nat.reduceAdd, Nat.reduceSub, Nat.reduceLeDiff, Nat.reduceEqDiff, Nat.zero_add, List.cons_append, List.nil_append, List.append_nil, if_true, if_false, Bool.not_false, decide_false, ne_eq, not_true_eq_false, h1]
    exact ⟨_, _, gc_all, _, lv_no (lvE_4 h0 (i := i) (by omega)) (by decide)⟩
  obtain ⟨n, rfl⟩ : ∃ n : Nat, i = n := ⟨i.toNat, by omega⟩
  have hn : n < cs.length := by omega
  obtain ⟨hlr, hg, hc, b1, b2, b3, b4⟩ := ch_at h0 hn
  have hn2 : n < rs.length := by omega
  have hl8 := hc.ok.l8
  have E0 := lvE_0 h0 hn
  have hQ : lvQ cs e rs n = R (lsq e (atR rs n)) := by
    unfold lvQ
    rw [if_pos E0, Int.toNat_natCast]
  have hLL : lvL cs e rs n = dl cs n := by
    unfold lvL
    rw [if_pos E0, Int.toNat_natCast]
  rw [E0, hQ, hLL]
  generalize atR rs n = r at *
  generalize hm : e * r.2 = m at *
  simp (maxSteps := 4000000) -implicitDefEqProofs -dsimp (disch := omega) only [↓AW_skip, ↓AW_ops, ↓AW_seq, ↓AW_cond, ↓AW_block, ↓AOps_nil, ↓AOps_pu, on_some, extK_same, condB_f, ↓then_normal, pval, rd_S, rd_C, put_S, ↓AW_toLoop, List.replicate_succ, List.replicate_zero, List.set_cons_zero, List.set_cons_succ, List.getElem?_cons_zero, List.getElem?_cons_succ, Option.getD_some, Nat.reduceSub, List.cons_append, List.nil_append, Bool.not_true, decide_true, and_true, h1]
  refine LoopK.by 65 (fun x : Nat × AV × AHeap => x.1 ≤ cs.length ∧ AccL 1 e1 A x.2.2 x.2.1 (dl (cs.take x.1) n)) (fun x => [(0, v), (1, I e), (2, u), (3, I n), (9, .agg [I 0, I 0]), (12, x.2.1), (13, I x.1)]) (fun x => x.2.2) (fun x => cs.length - x.1) (0, .nilS, A) ⟨by simp only; omega, by simp only [List.take_zero]; unfold dl; rw [List.take_nil, List.drop_nil]; exact AccL.nil (List.prefix_refl _)⟩ rfl (by simp [Has, rd_s]) rfl ?_
  rintro ⟨j, y, H⟩ ⟨hj, hac⟩
  simp only at hj hac
  have hxH := hx.mono hac.1
  have hrH := hr.mono hac.1
  by_cases hlt : j < cs.length
  · obtain ⟨z, hz⟩ : ∃ z, cs[j]? = some z := ⟨_, List.getElem?_eq_getElem hlt⟩
    have hlt' : (j : Int) < cs.length := by omega
    have hdt := dl_take (i := n) hz
    by_cases hjn : j = n
    · rw [if_pos hjn, List.append_nil] at hdt
      rw [← hdt] at hac
      subst hjn
      simp (maxSteps := 4000000) -implicitDefEqProofs -dsimp (disch := omega) only [↓AW_skip, ↓AW_ops, ↓AW_seq, ↓AW_cond, ↓AW_block, ↓AOps_nil, ↓AOps_pu, on_some, condB_t, condB_f, ↓then_normal, ↓inBlock_normal, pval, rd_S, rd_C, put_S, eq_self, mk, List.foldl_cons, List.foldl_nil, List.replicate_succ, List.replicate_zero, List.set_cons_zero, List.set_cons_succ, List.getElem?_cons_zero, List.getElem?_cons_succ, Option.getD_some, List.length_cons, List.length_nil, Nat.reduceAdd, Nat.zero_add, bin_add, bin_neq, bin_lss, w64, decide_true, decide_false, true_and, not_true_eq_false, hlt', hxH.len]
      exact ⟨(j + 1, y, H), ⟨hlt, hac⟩, by simp [Has, rd_s], rfl, by simp only; omega⟩
    · rw [if_neg hjn] at hdt
      have hjn' : ¬ (j : Int) = n := by omega
      have hdl : (dl (cs.take j) n).length ≤ j := by unfold dl; simp; omega
      obtain ⟨y', H2, happ, hacc⟩ := hac.push e1_len z (by simp only [lim]; omega)
      rw [← hdt] at hacc
      have happ' : appA 1 (H ++ [.cells true [I z]]) y (.sl 1 H.length 0 1 true) = some (y', H2) := happ
      simp (maxSteps := 4000000) -implicitDefEqProofs -dsimp (disch := omega) only [↓AW_skip, ↓AW_ops, ↓AW_seq, ↓AW_cond, ↓AW_block, ↓AOps_nil, ↓AOps_pu, ↓AOps_ld, ↓AOps_ha, on_some, extK_false, extK_app, condB_t, ↓then_normal, ↓inBlock_normal, pval, lval, hval_blds, hval_app, rd_S, rd_C, put_S, cells_int, splice, partA, fillA, repl, eq_self, mk, List.foldl_cons, List.foldl_nil, List.replicate_succ, List.replicate_zero, List.set_cons_zero, List.set_cons_succ, List.getElem?_cons_zero, List.getElem?_cons_succ, List.drop_zero, List.drop_succ_cons, List.drop_nil, List.take_zero, List.take_succ_cons, List.take_nil, Option.getD_some, map_c, map_n, List.length_cons, List.length_nil, Nat.reduceAdd, Nat.reduceLeDiff, Nat.zero_add, List.nil_append, List.append_nil, bin_add, bin_neq, bin_lss, w64, if_true, if_false, Bool.false_eq_true, decide_true, Go.Eng.e1, true_and, and_true, not_false_eq_true, hlt', hxH.len, hxH.idx hlt, hxH.ld0 hz 1 false (by decide), hjn', happ', List.replicate_zero, repl]
      exact ⟨(j + 1, y', H2), ⟨hlt, hacc⟩, by simp [Has, rd_s], rfl, by simp only; omega⟩
  · have hlt' : ¬ ((j : Int) < cs.length) := by omega
    rw [List.take_of_length_le (by omega)] at hac
    simp (maxSteps := 4000000) -implicitDefEqProofs -dsimp (disch := omega) only [↓AW_ops, ↓AW_seq, ↓AW_cond, ↓AW_exit, ↓AOps_nil, ↓AOps_pu, ↓AOps_ld, ↓AOps_call, on_some, condB_f, ↓then_normal, ↓then_exit, ↓inBlock_exit, pval, lval, rd_S, put_S, partA, eq_self, mk, List.foldl_cons, List.foldl_nil, List.replicate_succ, List.replicate_zero, List.set_cons_zero, List.set_cons_succ, List.getElem?_cons_zero, List.getElem?_cons_succ, List.drop_zero, List.drop_succ_cons, List.take_zero, List.take_succ_cons, List.take_nil, Option.getD_some, map_c, map_n, List.length_cons, List.length_nil, Nat.reduceAdd, Nat.reduceLeDiff, Nat.zero_add, Nat.add_zero, bin_sub, bin_mul, bin_lss, w64, if_true, if_false, Bool.false_eq_true, decide_false, Go.Eng.e2, hlt', hxH.len, hrH.idx hn2, hrH.ld0 hg 1 false (by decide), hrH.ld hg 1 1 false (by decide), hm]
    refine CallK.of (s62 H (by omega) (by omega) (by omega)) ?_
    simp (maxSteps := 4000000) -implicitDefEqProofs -dsimp (disch := omega) only [↓AW_ret, ↓AOps_nil, ↓AOps_pu, on_some, extK_same, ↓then_normal, ↓FinR_ret, pval, rd_S, rd_C, put_S, resV, resL, chkd, bput, bgot, cells_agg, splice, partA, eq_self, mk, List.foldl_cons, List.foldl_nil, List.replicate_succ, List.replicate_zero, List.set_cons_zero, List.set_cons_succ, List.getElem?_cons_zero, List.getElem?_cons_succ, List.drop_zero, List.drop_succ_cons, List.drop_nil, List.take_zero, List.take_succ_cons, List.take_nil, Option.getD_some, List.length_cons, List.length_nil, Nat.reduceAdd, Nat.reduceLeDiff, Nat.reduceEqDiff, Nat.zero_add, List.nil_append, List.append_nil, if_true, if_false, ne_eq, not_true_eq_false]
    refine ⟨_, _, gc_all, y, ?_, hac.pre, AccL_ls hac e1_len⟩
    unfold lsq
    rw [hm]
/-- The four rules. -/
def rul (k : Nat) (cs : List Int) (e : Int) : List Rat := if k = 0 then pts cs e else if k = 1 then aw cs e else if k = 2 then lo cs e else crt cs e
theorem rul_ok (hc : CE cs e) (k : Nat) : chE cs e ((rul k cs e).map rp) = 0 := by
  unfold rul
  split
  · exact pts_ok hc
  · split
    · exact aw_ok hc
    · split
      · exact lo_ok hc
      · exact crt_ok hc
theorem at_map (f : Int → Rat) {i : Nat} {c : Int} (h : cs[i]? = some c) : atR ((cs.map f).map rp) i = rp (f c) := by
  unfold atR
  rw [List.getElem?_map, List.getElem?_map, h]
  rfl
/-- Without one, by each rule. -/
theorem rul_dl (hc : CE cs e) (j : Nat) {i : Nat} (hi : i < cs.length) (h2 : 2 ≤ cs.length) {k : Int} (hk : lsq e (atR ((rul j cs e).map rp) i) = (k : Rat)) :
    CE (dl cs i) k ∧ rul j (dl cs i) k = dl (rul j cs e) i := by
  have h : cs[i]? = some cs[i] := List.getElem?_eq_getElem hi
  generalize cs[i] = c at h
  unfold rul at *
  split at hk
  · rename_i h0
    subst h0
    simp only [if_true]
    unfold pts at hk
    rw [at_map _ h, lsq_eq] at hk
    exact dl_pts hc h h2 hk
  · rename_i h0
    simp only [h0, if_false]
    split at hk
    · rename_i h1
      simp only [h1, if_true]
      unfold aw capL at hk
      rw [at_map _ h, lsq_eq] at hk
      exact dl_aw hc h h2 hk
    · rename_i h1
      simp only [h1, if_false]
      split at hk
      · rename_i h3
        simp only [h3, if_true]
        rw [lo_eq, at_map _ h, lsq_eq] at hk
        exact dl_lo hc h h2 hk
      · rename_i h3
        simp only [h3, if_false]
        rw [crt_map, at_map _ h, lsq_eq] at hk
        exact dl_crt hc h h2 hk
theorem s52 (hx : L1 A v cs) (hl : cs.length ≤ 1000000) (hc : CE cs e) {k : Nat} (hk : k < 4) : ∃ r H, ACalls Try.prog 52 [I k, v, I e] A (.tuple [r, I 0]) H ∧ A <+: H ∧ L2 H r ((rul k cs e).map rp) := by
  have go : ∀ {r H ys}, ACalls Try.prog 52 [I k, v, I e] A (.tuple [r, I 0]) H → A <+: H → L2 H r ys → (rul k cs e).map rp = ys → ∃ r H, ACalls Try.prog 52 [I k, v, I e] A (.tuple [r, I 0]) H ∧ A <+: H ∧ L2 H r ((rul k cs e).map rp) := by
    intro r H ys h1 h2 h3 h4
    rw [h4]
    exact ⟨r, H, h1, h2, h3⟩
  by_cases k0 : k = 0
  · subst k0
    obtain ⟨r, H, c1, p1, q1⟩ := r_pts hx hl hc
    refine go ?_ p1 q1 rfl
    refine acalls hmix Try.func52 (by kernel_rfl) t52 3 rfl (by decide) ?_
    dsimp only [m52]
    simp (maxSteps := 4000000) -implicitDefEqProofs -dsimp (disch := omega) only [↓AW_ops, ↓AW_seq, ↓AW_cond, ↓AW_block, ↓AOps_nil, ↓AOps_pu, ↓AOps_call, on_some, condB_t, ↓then_normal, pval, rd_S, rd_C, put_S, eq_self, List.replicate_succ, List.replicate_zero, List.set_cons_zero, List.set_cons_succ, List.getElem?_cons_zero, List.getElem?_cons_succ, Option.getD_some, map_c, map_n, Nat.reduceSub, List.cons_append, List.nil_append, bin_eql, decide_true, show ((0 : Nat) : Int) = 0 from rfl]
    refine CallK.of (c1) ?_
    simp (maxSteps := 4000000) -implicitDefEqProofs -dsimp (disch := omega) only [↓AW_ret, ↓AOps_nil, ↓AOps_pu, on_some, extK_false, ↓then_normal, ↓then_ret, ↓inBlock_ret, ↓Fin_ret, pval, rd_S, put_S, resV, resL, List.replicate_succ, List.replicate_zero, List.set_cons_zero, List.set_cons_succ, List.getElem?_cons_zero, List.getElem?_cons_succ, Option.getD_some, Nat.reduceSub, List.cons_append, List.nil_append]
    exact gc_all
  by_cases k1 : k = 1
  · subst k1
    obtain ⟨r, H, c1, p1, q1⟩ := r_aw hx hl hc
    refine go ?_ p1 q1 rfl
    refine acalls hmix Try.func52 (by kernel_rfl) t52 3 rfl (by decide) ?_
    dsimp only [m52]
    simp (maxSteps := 4000000) -implicitDefEqProofs -dsimp (disch := omega) only [↓AW_ops, ↓AW_seq, ↓AW_cond, ↓AW_block, ↓AOps_nil, ↓AOps_pu, ↓AOps_call, on_some, condB_t, condB_f, ↓then_normal, pval, rd_S, rd_C, put_S, eq_self, List.replicate_succ, List.replicate_zero, List.set_cons_zero, List.set_cons_succ, List.getElem?_cons_zero, List.getElem?_cons_succ, Option.getD_some, map_c, map_n, Nat.reduceSub, List.cons_append, List.nil_append, bin_eql, decide_true, decide_false, Int.reduceEq, show ((1 : Nat) : Int) = 1 from rfl]
    refine CallK.of (c1) ?_
    simp (maxSteps := 4000000) -implicitDefEqProofs -dsimp (disch := omega) only [↓AW_ret, ↓AOps_nil, ↓AOps_pu, on_some, extK_false, ↓then_normal, ↓then_ret, ↓inBlock_ret, ↓Fin_ret, pval, rd_S, put_S, resV, resL, List.replicate_succ, List.replicate_zero, List.set_cons_zero, List.set_cons_succ, List.getElem?_cons_zero, List.getElem?_cons_succ, Option.getD_some, Nat.reduceSub, List.cons_append, List.nil_append]
    exact gc_all
  by_cases k2 : k = 2
  · subst k2
    obtain ⟨r, H, c1, p1, q1⟩ := r_lo hx hl hc
    refine go ?_ p1 q1 rfl
    refine acalls hmix Try.func52 (by kernel_rfl) t52 3 rfl (by decide) ?_
    dsimp only [m52]
    simp (maxSteps := 4000000) -implicitDefEqProofs -dsimp (disch := omega) only [↓AW_ops, ↓AW_seq, ↓AW_cond, ↓AW_block, ↓AOps_nil, ↓AOps_pu, ↓AOps_call, on_some, condB_t, condB_f, ↓then_normal, pval, rd_S, rd_C, put_S, eq_self, List.replicate_succ, List.replicate_zero, List.set_cons_zero, List.set_cons_succ, List.getElem?_cons_zero, List.getElem?_cons_succ, Option.getD_some, map_c, map_n, Nat.reduceSub, List.cons_append, List.nil_append, bin_eql, decide_true, decide_false, Int.reduceEq, show ((2 : Nat) : Int) = 2 from rfl]
    refine CallK.of (c1) ?_
    simp (maxSteps := 4000000) -implicitDefEqProofs -dsimp (disch := omega) only [↓AW_ret, ↓AOps_nil, ↓AOps_pu, on_some, extK_false, ↓then_normal, ↓then_ret, ↓inBlock_ret, ↓Fin_ret, pval, rd_S, put_S, resV, resL, List.replicate_succ, List.replicate_zero, List.set_cons_zero, List.set_cons_succ, List.getElem?_cons_zero, List.getElem?_cons_succ, Option.getD_some, Nat.reduceSub, List.cons_append, List.nil_append]
    exact gc_all
  · have k3 : k = 3 := by omega
    subst k3
    obtain ⟨r, H, c1, p1, q1⟩ := r_crt hx hl hc
    refine go ?_ p1 q1 rfl
    refine acalls hmix Try.func52 (by kernel_rfl) t52 3 rfl (by decide) ?_
    dsimp only [m52]
    simp (maxSteps := 4000000) -implicitDefEqProofs -dsimp (disch := omega) only [↓AW_skip, ↓AW_ops, ↓AW_seq, ↓AW_cond, ↓AW_block, ↓AOps_nil, ↓AOps_pu, ↓AOps_call, on_some, condB_f, ↓then_normal, ↓inBlock_normal, pval, rd_S, rd_C, put_S, List.replicate_succ, List.replicate_zero, List.set_cons_zero, List.set_cons_succ, List.getElem?_cons_zero, List.getElem?_cons_succ, Option.getD_some, map_c, map_n, Nat.reduceSub, List.cons_append, List.nil_append, bin_eql, decide_false, Int.reduceEq, show ((3 : Nat) : Int) = 3 from rfl]
    refine CallK.of (c1) ?_
    simp (maxSteps := 4000000) -implicitDefEqProofs -dsimp (disch := omega) only [↓AW_ret, ↓AOps_nil, ↓AOps_pu, on_some, extK_false, ↓then_normal, ↓Fin_ret, pval, rd_S, put_S, resV, resL, List.replicate_succ, List.replicate_zero, List.set_cons_zero, List.set_cons_succ, List.getElem?_cons_zero, List.getElem?_cons_succ, Option.getD_some, Nat.reduceSub, List.cons_append, List.nil_append]
    exact gc_all
/-- Two lists behind an empty one in new memory. -/
theorem cat2 {H : AHeap} {a b : AV} {xs ys : List (Int × Int)} (ha : L2 H a xs) (hb : L2 H b ys) (h1 : xs.length ≤ 1000) (h2 : ys.length ≤ 1000) :
    ∃ v1 H1 v2 H2, appA 2 (H ++ [.cells true []]) (.sl 2 H.length 0 0 true) a = some (v1, H1) ∧ appA 2 H1 v1 b = some (v2, H2) ∧ H <+: H2 ∧ L2 H2 v2 (xs ++ ys) := by
  have hp : H <+: H ++ [.cells true []] := pre_app _ _
  have key : ∀ {a : AV} {xs : List (Int × Int)}, L2 (H ++ [.cells true []]) a xs → ¬ xs.length = 0 → xs.length ≤ 1000 → ∃ v1 H1, appA 2 (H ++ [.cells true []]) (.sl 2 H.length 0 0 true) a = some (v1, H1) ∧ AccL 2 e2 (H ++ [.cells true []]) H1 v1 xs := by
    intro a xs ha h0 h1
    have hc := ha.hc
    refine ⟨.sl 2 (H ++ [AObj.cells true []]).length 0 xs.length false, (H ++ [.cells true []]) ++ [.cells true (xs.flatMap e2)], ?_, ⟨pre_app _ _, by simpa using flatMap_length e2_len xs, .inr ⟨by simpa using (by omega : 0 < xs.length), _, by simp, Nat.le_refl _, by simp⟩⟩⟩
    unfold appA
    rw [hc]
    have hlim : xs.length ≤ lim := by simp [lim]; omega
    simp [h0, hlim]
  have hem : appA 2 (H ++ [.cells true []]) (.sl 2 H.length 0 0 true) a = some (.sl 2 H.length 0 0 true, H ++ [.cells true []]) ∨ ¬ xs.length = 0 := by
    by_cases h0 : xs.length = 0
    · left
      have hc := (ha.mono hp).hc
      unfold appA
      rw [hc]
      simp [h0]
    · exact .inr h0
  rcases hem with hem | h0
  · by_cases hx0 : xs.length = 0
    · have hxe := List.eq_nil_of_length_eq_zero hx0
      subst hxe
      by_cases hy0 : ys.length = 0
      · have hye := List.eq_nil_of_length_eq_zero hy0
        subst hye
        refine ⟨_, _, .sl 2 H.length 0 0 true, H ++ [.cells true []], hem, ?_, hp, ⟨e2_len, by simp [slCells, cellsAt]⟩⟩
        have hc := (hb.mono hp).hc
        unfold appA
        rw [hc]
        simp
      · obtain ⟨v2, H2, q1, q2⟩ := key (hb.mono hp) hy0 h2
        exact ⟨_, _, v2, H2, hem, q1, hp.trans q2.pre, AccL_ls q2 e2_len⟩
    · obtain ⟨v1, H1, q1, q2⟩ := key (ha.mono hp) hx0 h1
      obtain ⟨v2, H2, q3, q4⟩ := q2.pushes ((hb.mono hp).mono q2.pre) (by simp [lim]; omega)
      exact ⟨v1, H1, v2, H2, q1, q3, hp.trans q4.pre, AccL_ls q4 e2_len⟩
  · obtain ⟨v1, H1, q1, q2⟩ := key (ha.mono hp) h0 h1
    obtain ⟨v2, H2, q3, q4⟩ := q2.pushes ((hb.mono hp).mono q2.pre) (by simp [lim]; omega)
    exact ⟨v1, H1, v2, H2, q1, q3, hp.trans q4.pre, AccL_ls q4 e2_len⟩
end
end Go.Proofs.Ytdcdjhhjlpegjaa

namespace Go.Proofs.Ytdcdjhhjlpegjaa
open Go Go.Eng
section
variable {cs : List Int} {rs : List (Int × Int)} {v u : AV} {A : AHeap} {e : Int}
theorem dl_le (cs : List Int) (i : Nat) : (dl cs i).length ≤ cs.length := by
  unfold dl
  rw [List.length_append, List.length_take, List.length_drop]
  omega
theorem lvL_le (cs : List Int) (e : Int) (rs : List (Int × Int)) (i : Int) : (lvL cs e rs i).length ≤ cs.length := by
  unfold lvL
  split
  · exact dl_le cs _
  · simp
set_option maxRecDepth 20000 in
set_option maxHeartbeats 16000000 in
theorem s14 (hx : L1 A v cs) (hr : L2 A u rs) (i : Int) : ACalls Try.prog 14 [.agg [v, I e], u, I i] A (B true) A := by
  refine acalls hmix Try.func14 (by kernel_rfl) t14 3 rfl (by decide) ?_
  dsimp only [m14]
  simp (maxSteps := 4000000) -implicitDefEqProofs -dsimp (disch := omega) only [↓AW_ops, ↓AW_seq, ↓AOps_nil, ↓AOps_pu, ↓AOps_call, on_some, ↓then_normal, pval, rd_S, rd_C, put_S, chkd, bgot, AV.cells?, partA, eq_self, List.replicate_succ, List.replicate_zero, List.set_cons_zero, List.set_cons_succ, List.getElem?_cons_zero, List.getElem?_cons_succ, List.drop_zero, List.take_succ_cons, List.take_nil, Option.getD_some, map_c, map_n, List.length_cons, List.length_nil, Nat.reduceAdd, Nat.reduceSub, Nat.reduceLeDiff, Nat.reduceEqDiff, Nat.zero_add, List.cons_append, List.nil_append, if_true, if_false]
  refine CallK.of (s15 hx) ?_
  by_cases h1 : (40 : Int) < cs.length
  · simp (maxSteps := 4000000) -implicitDefEqProofs -dsimp (disch := omega) only [↓AW_ops, ↓AW_seq, ↓AW_cond, ↓AOps_nil, ↓AOps_pu, ↓AOps_call, ↓AOps_guard, on_some, extK_same, guardB_tf, skipS_some, condB_t, ↓then_normal, pval, rd_S, rd_C, put_S, eq_self, List.replicate_succ, List.replicate_zero, List.set_cons_zero, List.set_cons_succ, List.getElem?_cons_zero, List.getElem?_cons_succ, Option.getD_some, map_n, Nat.reduceSub, List.cons_append, List.nil_append, if_true, decide_true, h1]
    refine CallK.of (known A) ?_
    simp (maxSteps := 4000000) -implicitDefEqProofs -dsimp (disch := omega) only [↓AW_ret, ↓AOps_nil, ↓AOps_pu, on_some, extK_same, skipS_some, ↓then_normal, ↓then_ret, ↓Fin_ret, pval, rd_S, put_S, resV, resL, List.replicate_succ, List.replicate_zero, List.set_cons_zero, List.set_cons_succ, List.getElem?_cons_zero, List.getElem?_cons_succ, Option.getD_some, Nat.reduceSub, List.cons_append, List.nil_append]
    exact gc_same rfl
  by_cases h2 : (40 : Int) < rs.length
  · simp (maxSteps := 4000000) -implicitDefEqProofs -dsimp (disch := omega) only [↓AW_ops, ↓AW_seq, ↓AW_cond, ↓AOps_nil, ↓AOps_pu, ↓AOps_call, ↓AOps_guard, on_some, extK_same, guardB_ff, condB_t, ↓then_normal, pval, rd_S, rd_C, put_S, List.replicate_succ, List.replicate_zero, List.set_cons_zero, List.set_cons_succ, List.getElem?_cons_zero, List.getElem?_cons_succ, Option.getD_some, map_n, Nat.reduceSub, List.cons_append, List.nil_append, bin_gtr, if_false, Bool.false_eq_true, decide_true, decide_false, h1, hr.len, h2]
    refine CallK.of (known A) ?_
    simp (maxSteps := 4000000) -implicitDefEqProofs -dsimp (disch := omega) only [↓AW_ret, ↓AOps_nil, ↓AOps_pu, on_some, extK_same, ↓then_normal, ↓then_ret, ↓Fin_ret, pval, rd_S, put_S, resV, resL, List.replicate_succ, List.replicate_zero, List.set_cons_zero, List.set_cons_succ, List.getElem?_cons_zero, List.getElem?_cons_succ, Option.getD_some, Nat.reduceSub, List.cons_append, List.nil_append]
    exact gc_same rfl
  have hl : cs.length ≤ 1000000 := by omega
  have hl2 : rs.length ≤ 1000000 := by omega
  simp (maxSteps := 4000000) -implicitDefEqProofs -dsimp (disch := omega) only [↓AW_skip, ↓AW_ops, ↓AW_seq, ↓AW_cond, ↓AOps_nil, ↓AOps_pu, ↓AOps_call, ↓AOps_guard, on_some, extK_same, guardB_ff, condB_f, ↓then_normal, pval, rd_S, rd_C, put_S, chkd, isAdr, bgot, AV.cells?, partA, eq_self, List.replicate_succ, List.replicate_zero, List.set_cons_zero, List.set_cons_succ, List.getElem?_cons_zero, List.getElem?_cons_succ, List.drop_zero, List.drop_succ_cons, List.take_zero, List.take_succ_cons, List.take_nil, Option.getD_some, map_c, map_n, List.length_cons, List.length_nil, Nat.reduceAdd, Nat.reduceSub, Nat.reduceLeDiff, Nat.zero_add, List.cons_append, List.nil_append, bin_gtr, if_true, if_false, Bool.false_eq_true, decide_false, h1, hr.len, h2]
  obtain ⟨r1, H1, c1, y1, rfl, p1, q1⟩ := s50 (e := e) hx hr hl hl2 i
  obtain ⟨a, b, hab⟩ := lvQ_is cs e rs i
  have hle := lvL_le cs e rs i
  rw [hab] at c1
  refine CallK.of c1 ?_
  simp (maxSteps := 4000000) -implicitDefEqProofs -dsimp (disch := omega) only [↓AW_ops, ↓AW_seq, ↓AOps_nil, ↓AOps_pu, ↓AOps_call, on_some, extK_false, ↓then_normal, pval, rd_S, rd_C, put_S, chkd, isAdr, bput, bgot, AV.cells?, splice, partA, eq_self, List.replicate_succ, List.replicate_zero, List.set_cons_zero, List.set_cons_succ, List.getElem?_cons_zero, List.getElem?_cons_succ, List.drop_zero, List.drop_succ_cons, List.drop_nil, List.take_zero, List.take_succ_cons, List.take_nil, Option.getD_some, map_c, map_n, List.length_cons, List.length_nil, Nat.reduceAdd, Nat.reduceSub, Nat.reduceLeDiff, Nat.zero_add, List.cons_append, List.nil_append, List.append_nil, if_true, if_false, Bool.false_eq_true, ne_eq, not_true_eq_false]
  obtain ⟨r2, H2, c2, y2, rfl, p2, q2⟩ := s51 (e := e) (hx.mono p1) (hr.mono p1) hl hl2 i
  rw [hab] at c2
  refine CallK.of c2 ?_
  simp (maxSteps := 4000000) -implicitDefEqProofs -dsimp (disch := omega) only [↓AW_ops, ↓AW_seq, ↓AOps_nil, ↓AOps_pu, ↓AOps_call, on_some, extK_false, ↓then_normal, pval, rd_S, rd_C, put_S, chkd, bput, AV.cells?, splice, eq_self, List.replicate_succ, List.replicate_zero, List.set_cons_zero, List.set_cons_succ, List.getElem?_cons_zero, List.getElem?_cons_succ, List.drop_succ_cons, List.drop_nil, List.take_zero, Option.getD_some, map_c, map_n, List.length_cons, List.length_nil, Nat.reduceAdd, Nat.reduceSub, Nat.reduceLeDiff, Nat.zero_add, List.cons_append, List.nil_append, List.append_nil, if_true, if_false, ne_eq, not_true_eq_false]
  refine CallK.of (c_SameInts (q1.mono p2) q2 (by omega)) ?_
  have P2 := p1.trans p2
  simp (maxSteps := 4000000) -implicitDefEqProofs -dsimp (disch := omega) only [↓AW_skip, ↓AW_ops, ↓AW_seq, ↓AW_cond, ↓AOps_nil, ↓AOps_pu, ↓AOps_call, ↓AOps_guard, on_some, extK_same, guardB_ff, condB_f, ↓then_normal, pval, rd_S, rd_C, put_S, chkd, isAdr, bgot, AV.cells?, partA, eqc, beq_self_eq_true, eq_self, List.replicate_succ, List.replicate_zero, List.set_cons_zero, List.set_cons_succ, List.getElem?_cons_zero, List.getElem?_cons_succ, List.drop_zero, List.drop_succ_cons, List.take_zero, List.take_succ_cons, List.take_nil, Option.getD_some, Option.map_some, map_c, map_n, List.length_cons, List.length_nil, Nat.reduceAdd, Nat.reduceSub, Nat.reduceLeDiff, Nat.reduceEqDiff, Nat.zero_add, List.cons_append, List.nil_append, bin_neq, if_true, if_false, Bool.false_eq_true, Bool.not_true, Bool.true_and, decide_true, decide_false, not_true_eq_false]
  refine CallK.of (s16 (hx.mono P2) hl e) ?_
  by_cases h0 : vE cs e = 0
  case neg =>
    simp (maxSteps := 4000000) -implicitDefEqProofs -dsimp (disch := omega) only [↓AW_ops, ↓AW_seq, ↓AW_cond, ↓AOps_nil, ↓AOps_pu, ↓AOps_call, ↓AOps_guard, on_some, extK_same, guardB_tf, skipS_some, condB_t, ↓then_normal, pval, rd_S, rd_C, put_S, eq_self, List.replicate_succ, List.replicate_zero, List.set_cons_zero, List.set_cons_succ, List.getElem?_cons_zero, List.getElem?_cons_succ, Option.getD_some, map_n, Nat.reduceSub, List.cons_append, List.nil_append, bin_neq, if_true, decide_true, not_false_eq_true, h0]
    refine CallK.of (known H2) ?_
    simp (maxSteps := 4000000) -implicitDefEqProofs -dsimp (disch := omega) only [↓AW_ret, ↓AOps_nil, ↓AOps_pu, on_some, extK_same, skipS_some, ↓then_normal, ↓then_ret, ↓Fin_ret, pval, rd_S, put_S, resV, resL, eq_self, List.replicate_succ, List.replicate_zero, List.set_cons_zero, List.set_cons_succ, List.getElem?_cons_zero, List.getElem?_cons_succ, Option.getD_some, Nat.reduceSub, List.cons_append, List.nil_append, decide_true]
    exact gc_val P2 rfl
  by_cases h3 : i < 0
  · simp (maxSteps := 4000000) -implicitDefEqProofs -dsimp (disch := omega) only [↓AW_ops, ↓AW_seq, ↓AW_cond, ↓AOps_nil, ↓AOps_pu, ↓AOps_call, ↓AOps_guard, on_some, extK_same, guardB_tf, guardB_ff, skipS_some, condB_t, ↓then_normal, pval, rd_S, rd_C, put_S, eq_self, List.replicate_succ, List.replicate_zero, List.set_cons_zero, List.set_cons_succ, List.getElem?_cons_zero, List.getElem?_cons_succ, Option.getD_some, map_n, Nat.reduceSub, List.cons_append, List.nil_append, bin_neq, bin_lss, if_true, if_false, Bool.false_eq_true, decide_true, decide_false, not_true_eq_false, h0, h3]
    refine CallK.of (known H2) ?_
    simp (maxSteps := 4000000) -implicitDefEqProofs -dsimp (disch := omega) only [↓AW_ret, ↓AOps_nil, ↓AOps_pu, on_some, extK_same, skipS_some, ↓then_normal, ↓then_ret, ↓Fin_ret, pval, rd_S, put_S, resV, resL, eq_self, List.replicate_succ, List.replicate_zero, List.set_cons_zero, List.set_cons_succ, List.getElem?_cons_zero, List.getElem?_cons_succ, Option.getD_some, Nat.reduceSub, List.cons_append, List.nil_append, decide_true]
    exact gc_val P2 rfl
  by_cases h4 : (cs.length : Int) ≤ i
  · simp (maxSteps := 4000000) -implicitDefEqProofs -dsimp (disch := omega) only [↓AW_ops, ↓AW_seq, ↓AW_cond, ↓AOps_nil, ↓AOps_pu, ↓AOps_call, ↓AOps_guard, on_some, extK_same, guardB_tf, guardB_ff, skipS_some, condB_t, ↓then_normal, pval, rd_S, rd_C, put_S, chkd, isAdr, bgot, AV.cells?, partA, eq_self, List.replicate_succ, List.replicate_zero, List.set_cons_zero, List.set_cons_succ, List.getElem?_cons_zero, List.getElem?_cons_succ, List.drop_zero, List.take_zero, List.take_succ_cons, Option.getD_some, map_n, List.length_cons, List.length_nil, Nat.reduceAdd, Nat.reduceSub, Nat.reduceLeDiff, Nat.zero_add, List.cons_append, List.nil_append, bin_neq, bin_lss, bin_geq, if_true, if_false, Bool.false_eq_true, decide_true, decide_false, not_true_eq_false, h0, h3, (hx.mono P2).len, h4]
    refine CallK.of (known H2) ?_
    simp (maxSteps := 4000000) -implicitDefEqProofs -dsimp (disch := omega) only [↓AW_ret, ↓AOps_nil, ↓AOps_pu, on_some, extK_same, skipS_some, ↓then_normal, ↓then_ret, ↓Fin_ret, pval, rd_S, put_S, resV, resL, eq_self, List.replicate_succ, List.replicate_zero, List.set_cons_zero, List.set_cons_succ, List.getElem?_cons_zero, List.getElem?_cons_succ, Option.getD_some, Nat.reduceSub, List.cons_append, List.nil_append, decide_true]
    exact gc_val P2 rfl
  by_cases h5 : (cs.length : Int) < 2
  · simp (maxSteps := 4000000) -implicitDefEqProofs -dsimp (disch := omega) only [↓AW_ops, ↓AW_seq, ↓AW_cond, ↓AOps_nil, ↓AOps_pu, ↓AOps_call, ↓AOps_guard, on_some, extK_same, guardB_ff, condB_t, ↓then_normal, pval, rd_S, rd_C, put_S, chkd, isAdr, bgot, AV.cells?, partA, eq_self, List.replicate_succ, List.replicate_zero, List.set_cons_zero, List.set_cons_succ, List.getElem?_cons_zero, List.getElem?_cons_succ, List.drop_zero, List.take_zero, List.take_succ_cons, Option.getD_some, map_n, List.length_cons, List.length_nil, Nat.reduceAdd, Nat.reduceSub, Nat.reduceLeDiff, Nat.zero_add, List.cons_append, List.nil_append, bin_neq, bin_lss, bin_geq, if_true, if_false, Bool.false_eq_true, decide_true, decide_false, not_true_eq_false, h0, h3, (hx.mono P2).len, h4, h5]
    refine CallK.of (known H2) ?_
    simp (maxSteps := 4000000) -implicitDefEqProofs -dsimp (disch := omega) only [↓AW_ret, ↓AOps_nil, ↓AOps_pu, on_some, extK_same, ↓then_normal, ↓then_ret, ↓Fin_ret, pval, rd_S, put_S, resV, resL, eq_self, List.replicate_succ, List.replicate_zero, List.set_cons_zero, List.set_cons_succ, List.getElem?_cons_zero, List.getElem?_cons_succ, Option.getD_some, Nat.reduceSub, List.cons_append, List.nil_append, decide_true]
    exact gc_val P2 rfl
  have hc := vE_0.1 h0
  obtain ⟨n, rfl⟩ : ∃ n : Nat, i = n := ⟨i.toNat, by omega⟩
  have hn : n < cs.length := by omega
  have hn2 : 2 ≤ cs.length := by omega
  simp (maxSteps := 4000000) -implicitDefEqProofs -dsimp (disch := omega) only [↓AW_skip, ↓AW_ops, ↓AW_seq, ↓AW_cond, ↓AW_block, ↓AOps_nil, ↓AOps_pu, ↓AOps_guard, on_some, extK_same, guardB_ff, condB_f, ↓then_normal, pval, rd_S, rd_C, put_S, ↓AW_toLoop, chkd, isAdr, bgot, AV.cells?, partA, eq_self, List.replicate_succ, List.replicate_zero, List.set_cons_zero, List.set_cons_succ, List.getElem?_cons_zero, List.getElem?_cons_succ, List.drop_zero, List.take_zero, List.take_succ_cons, Option.getD_some, List.length_cons, List.length_nil, Nat.reduceAdd, Nat.reduceSub, Nat.reduceLeDiff, Nat.zero_add, List.cons_append, List.nil_append, bin_neq, bin_lss, bin_geq, if_true, if_false, Bool.false_eq_true, decide_true, decide_false, not_true_eq_false, h0, h3, (hx.mono P2).len, h4, h5]
  refine LoopK.by 156 (fun x : Nat × AHeap => x.1 ≤ 4 ∧ A <+: x.2) (fun x => [(2, I n), (3, .agg [v, I e]), (13, I x.1)]) (fun x => x.2) (fun x => 4 - x.1) (0, H2) ⟨by simp only; omega, P2⟩ rfl (by simp [Has, rd_s]) rfl ?_
  rintro ⟨k, H⟩ ⟨hk, hp⟩
  simp only at hk hp
  by_cases hlt : k < 4
  · have hlt' : (k : Int) < 4 := by omega
    simp (maxSteps := 4000000) -implicitDefEqProofs -dsimp (disch := omega) only [↓AW_skip, ↓AW_ops, ↓AW_seq, ↓AW_cond, ↓AW_block, ↓AOps_nil, ↓AOps_pu, ↓AOps_call, on_some, condB_t, ↓then_normal, pval, rd_S, rd_C, put_S, chkd, isAdr, bgot, AV.cells?, partA, eq_self, mk, List.foldl_cons, List.foldl_nil, List.replicate_succ, List.replicate_zero, List.set_cons_zero, List.set_cons_succ, List.getElem?_cons_zero, List.getElem?_cons_succ, List.drop_zero, List.drop_succ_cons, List.take_zero, List.take_succ_cons, List.take_nil, Option.getD_some, map_c, map_n, List.length_cons, List.length_nil, Nat.reduceAdd, Nat.reduceLeDiff, Nat.zero_add, bin_lss, if_true, if_false, Bool.false_eq_true, decide_true, hlt']
    obtain ⟨r3, H3, c3, p3, q3⟩ := s52 (hx.mono hp) hl hc hlt
    refine CallK.of c3 ?_
    simp (maxSteps := 4000000) -implicitDefEqProofs -dsimp (disch := omega) only [↓AW_ops, ↓AW_seq, ↓AOps_nil, ↓AOps_pu, ↓AOps_call, on_some, extK_false, ↓then_normal, pval, rd_S, put_S, chkd, isAdr, bgot, AV.cells?, partA, eq_self, mk, List.foldl_cons, List.foldl_nil, List.replicate_succ, List.replicate_zero, List.set_cons_zero, List.set_cons_succ, List.getElem?_cons_zero, List.getElem?_cons_succ, List.drop_zero, List.drop_succ_cons, List.take_zero, List.take_succ_cons, List.take_nil, Option.getD_some, map_c, map_n, List.length_cons, List.length_nil, Nat.reduceAdd, Nat.reduceLeDiff, Nat.zero_add, if_true, if_false, Bool.false_eq_true]
    have P3 := hp.trans p3
    have hok := rul_ok hc k
    obtain ⟨hlr, -⟩ := ch_at hok hn
    obtain ⟨r4, H4, c4, y4, rfl, p4, q4⟩ := s50 (e := e) (hx.mono P3) q3 hl (by omega) n
    have E0 := lvE_0 hok hn
    have hQ : lvQ cs e ((rul k cs e).map rp) n = R (lsq e (atR ((rul k cs e).map rp) n)) := by
      unfold lvQ
      rw [if_pos E0, Int.toNat_natCast]
    have hLL : lvL cs e ((rul k cs e).map rp) n = dl cs n := by
      unfold lvL
      rw [if_pos E0, Int.toNat_natCast]
    rw [E0, hQ] at c4
    rw [hLL] at q4
    have P4 := P3.trans p4
    refine CallK.of c4 ?_
    by_cases hd : ((lsq e (atR ((rul k cs e).map rp) n)).den : Int) = 1
    · have hkk : lsq e (atR ((rul k cs e).map rp) n) = (((lsq e (atR ((rul k cs e).map rp) n)).num : Int) : Rat) := by
        have := q_mul (lsq e (atR ((rul k cs e).map rp) n))
        rw [hd, int1, Rat.mul_one] at this
        exact this
      obtain ⟨hC, hD⟩ := rul_dl hc k hn hn2 hkk
      simp (maxSteps := 4000000) -implicitDefEqProofs -dsimp (disch := omega) only [↓AW_skip, ↓AW_ops, ↓AW_seq, ↓AW_cond, ↓AOps_nil, ↓AOps_pu, ↓AOps_call, ↓AOps_guard, on_some, extK_false, guardB_ff, condB_f, ↓then_normal, pval, rd_S, rd_C, put_S, chkd, isAdr, bput, bgot, AV.cells?, splice, partA, eq_self, mk, List.foldl_cons, List.foldl_nil, List.replicate_succ, List.replicate_zero, List.set_cons_zero, List.set_cons_succ, List.getElem?_cons_zero, List.getElem?_cons_succ, List.drop_zero, List.drop_succ_cons, List.drop_nil, List.take_zero, List.take_succ_cons, List.take_nil, Option.getD_some, map_c, map_n, List.length_cons, List.length_nil, Nat.reduceAdd, Nat.reduceLeDiff, Nat.zero_add, List.nil_append, List.append_nil, bin_neq, if_true, if_false, Bool.false_eq_true, decide_false, ne_eq, not_true_eq_false, hd]
      obtain ⟨r5, H5, c5, p5, q5⟩ := s52 q4 (by have := dl_le cs n; omega) hC hlt
      refine CallK.of c5 ?_
      rw [hD] at q5
      have q3' := (q3.mono p4).mono p5
      have hl3 := q3'.len
      rw [hlr] at hl3
      have hx5 := (hx.mono (P4.trans p5)).len
      obtain ⟨v6, s6, l6⟩ := Ls_takeS q3' n (by omega)
      obtain ⟨v7, s7, l7⟩ := Ls_dropS q3' (n + 1) (by omega)
      rw [show ((n + 1 : Nat) : Int) = (n : Int) + 1 by omega] at s7
      have hl8 := hc.ok.l8
      obtain ⟨v8, H8, v9, H9, t8, t9, p9, l9⟩ := cat2 l6 l7 (by rw [List.length_take]; omega) (by rw [List.length_drop]; omega)
      simp (maxSteps := 4000000) -implicitDefEqProofs -dsimp (disch := omega) only [↓AW_ops, ↓AW_seq, ↓AOps_nil, ↓AOps_pu, ↓AOps_ha, ↓AOps_call, ↓AOps_guard, on_some, extK_false, extK_app, guardB_ff, ↓then_normal, pval, hval, rd_S, rd_C, put_S, chkd, isAdr, bgot, AV.cells?, partA, fillA, repl, eq_self, mk, List.foldl_cons, List.foldl_nil, List.replicate_succ, List.replicate_zero, List.set_cons_zero, List.set_cons_succ, List.getElem?_cons_zero, List.getElem?_cons_succ, List.drop_zero, List.take_zero, List.take_succ_cons, Option.getD_some, Option.map_some, Option.map_none, map_c, map_n, List.length_cons, List.length_nil, Nat.reduceAdd, Nat.reduceLeDiff, Nat.zero_add, bin_add, bin_neq, w64, if_true, if_false, Bool.false_eq_true, decide_false, not_true_eq_false, hl3, hx5, s6, s7, List.replicate_zero, repl, t8, t9]
      have hdd : ((rul k cs e).map rp).take n ++ ((rul k cs e).map rp).drop (n + 1) = (dl (rul k cs e) n).map rp := by rw [← dl_map]; rfl
      rw [hdd] at l9
      have hdl : ((dl (rul k cs e) n).map rp).length ≤ 1000000 := by
        rw [List.length_map] at hlr
        have := dl_len (xs := rul k cs e) (i := n) (by omega)
        rw [List.length_map]
        omega
      refine CallK.of (s30 (q5.mono p9) l9 hdl) ?_
      simp (maxSteps := 4000000) -implicitDefEqProofs -dsimp (disch := omega) only [↓AW_skip, ↓AW_ops, ↓AW_cond, ↓AOps_nil, ↓AOps_pu, ↓AOps_guard, on_some, extK_same, guardB_ff, condB_f, ↓then_normal, ↓inBlock_normal, pval, rd_S, rd_C, put_S, eq_self, mk, List.foldl_cons, List.foldl_nil, List.replicate_succ, List.replicate_zero, List.set_cons_zero, List.set_cons_succ, List.getElem?_cons_zero, List.getElem?_cons_succ, Option.getD_some, List.length_cons, List.length_nil, Nat.reduceAdd, Nat.zero_add, bin_add, w64, if_false, Bool.false_eq_true, Bool.not_true, decide_true, true_and]
      exact ⟨(k + 1, H9), ⟨hlt, (P4.trans p5).trans p9⟩, by simp [Has, rd_s], rfl, by simp only; omega⟩
    · simp (maxSteps := 4000000) -implicitDefEqProofs -dsimp (disch := omega) only [↓AW_skip, ↓AW_ops, ↓AW_seq, ↓AW_cond, ↓AW_exit, ↓AOps_nil, ↓AOps_pu, ↓AOps_call, ↓AOps_guard, on_some, extK_false, guardB_ff, condB_t, condB_f, ↓then_normal, ↓then_exit, ↓inBlock_exit, pval, rd_S, rd_C, put_S, chkd, isAdr, bput, bgot, AV.cells?, splice, partA, eq_self, mk, List.foldl_cons, List.foldl_nil, List.replicate_succ, List.replicate_zero, List.set_cons_zero, List.set_cons_succ, List.getElem?_cons_zero, List.getElem?_cons_succ, List.drop_zero, List.drop_succ_cons, List.drop_nil, List.take_zero, List.take_succ_cons, List.take_nil, Option.getD_some, map_n, List.length_cons, List.length_nil, Nat.reduceAdd, Nat.reduceLeDiff, Nat.zero_add, List.nil_append, List.append_nil, bin_add, bin_neq, w64, if_true, if_false, Bool.false_eq_true, decide_true, decide_false, true_and, reduceCtorEq, ne_eq, not_true_eq_false, not_false_eq_true, hd]
      exact ⟨(k + 1, H4), ⟨hlt, P4⟩, by simp [Has, rd_s], rfl, by simp only; omega⟩
  · have hlt' : ¬ (k : Int) < 4 := by omega
    simp (maxSteps := 4000000) -implicitDefEqProofs -dsimp (disch := omega) only [↓AW_ops, ↓AW_seq, ↓AW_cond, ↓AW_exit, ↓AOps_nil, ↓AOps_pu, ↓AOps_call, on_some, condB_f, ↓then_normal, ↓then_exit, ↓inBlock_exit, pval, rd_S, rd_C, put_S, eq_self, mk, List.foldl_cons, List.foldl_nil, List.replicate_succ, List.replicate_zero, List.set_cons_zero, List.set_cons_succ, List.getElem?_cons_zero, List.getElem?_cons_succ, Option.getD_some, map_n, bin_lss, if_true, decide_false, hlt']
    refine CallK.of (known H) ?_
    simp (maxSteps := 4000000) -implicitDefEqProofs -dsimp (disch := omega) only [↓AW_ret, ↓AOps_nil, ↓AOps_pu, on_some, extK_same, ↓then_normal, ↓Fin_ret, pval, rd_S, put_S, resV, resL, mk, List.foldl_cons, List.foldl_nil, List.replicate_succ, List.replicate_zero, List.set_cons_zero, List.set_cons_succ, List.getElem?_cons_zero, List.getElem?_cons_succ, Option.getD_some]
    exact gc_val hp rfl
end
end Go.Proofs.Ytdcdjhhjlpegjaa

