/- Wishes: which places are needed. No conditions. -/
import Derived.Test.YtlmbobbefgcolaaW17
import Derived.Test.YtlmbobbefgcolaaW12
namespace Go.Proofs.Ytlmbobbefgcolaa
open Go Go.Eng

theorem lst_wop {ls : List (List Int)} {p : Int} {k : Nat} : lst (wop ls p) k = without (lst ls k) p := by
  rw [lst_nat, lst_nat, wop, List.getElem?_map]
  cases ls[k]? <;> simp [without]
theorem mem_without {l : List Int} {p q : Int} : q ∈ without l p ↔ q ∈ l ∧ q ≠ p := by
  unfold without
  rw [List.mem_filter]
  simp
theorem wop_len (ls : List (List Int)) (p : Int) : (wop ls p).length = ls.length := by simp [wop]
theorem wop_in {P : Int} {ls : List (List Int)} (hls : ∀ l ∈ ls, ∀ p ∈ l, inP P p) (p : Int) : ∀ l ∈ wop ls p, ∀ q ∈ l, inP P q := by
  intro l hl q hq
  obtain ⟨l', hl', rfl⟩ := List.mem_map.1 hl
  exact hls l' hl' q (mem_without.1 hq).1
theorem val_wop {P : Int} {ls : List (List Int)} (h : Val P ls) (p : Int) : Val P (wop ls p) := by
  refine ⟨h.hP, by rw [wop_len]; exact h.n, fun l hl => ?_⟩
  obtain ⟨l', hl', rfl⟩ := List.mem_map.1 hl
  refine ⟨fun q hq => (h.l l' hl').1 q (mem_without.1 hq).1, ?_⟩
  exact (h.l l' hl').2.filter _

theorem has_of_mem {g : List Int} {p : Int} (h : p ∈ g) : ∃ k, k < g.length ∧ has g k = p := by
  obtain ⟨k, hk, e⟩ := List.mem_iff_getElem.1 h
  exact ⟨k, hk, by rw [has_get (List.getElem?_eq_getElem hk), e]⟩

/-- A giving of the wishes without a place is one that does not give it. -/
theorem good_wop {P : Int} {ls : List (List Int)} {p : Int} (hp : 0 ≤ p) {g : List Int} : Good P (wop ls p) g ↔ Good P ls g ∧ p ∉ g := by
  constructor
  · intro h
    have hl := wop_len ls p
    refine ⟨⟨by rw [h.len, hl], fun k hk => h.rng k (by rw [hl]; exact hk), fun k hk h0 => ?_, fun a b ha hb => h.inj a b (by rw [hl]; exact ha) (by rw [hl]; exact hb)⟩, fun hm => ?_⟩
    · have := h.wish k (by rw [hl]; exact hk) h0
      rw [lst_wop] at this
      exact (mem_without.1 this).1
    · obtain ⟨k, hk, e⟩ := has_of_mem hm
      rw [h.len] at hk
      have := h.wish k hk (by rw [e]; exact hp)
      rw [lst_wop, e] at this
      exact (mem_without.1 this).2 rfl
  · rintro ⟨h, hm⟩
    have hl := wop_len ls p
    refine ⟨by rw [h.len, hl], fun k hk => h.rng k (by rw [← hl]; exact hk), fun k hk h0 => ?_, fun a b ha hb => h.inj a b (by rw [← hl]; exact ha) (by rw [← hl]; exact hb)⟩
    rw [hl] at hk
    rw [lst_wop]
    refine mem_without.2 ⟨h.wish k hk h0, fun e => hm ?_⟩
    have := has_mem (g := g) (k := k) (by rw [h.len]; exact hk)
    rwa [e] at this

theorem most_wop_le {P : Int} {ls : List (List Int)} (hv : Val P ls) {p : Int} (hp : 0 ≤ p) : most P (wop ls p) ≤ most P ls := by
  have hP : 0 ≤ P := by have := hv.hP; omega
  obtain ⟨⟨g, hg, e⟩, _⟩ := most_spec hP (fun l hl => ((val_wop hv p).l l hl).1)
  rw [← e]
  exact (most_spec hP (fun l hl => (hv.l l hl).1)).2 g ((good_wop hp).1 hg).1

/-- A place is needed if fewer are served without it. -/
def needB (P : Int) (ls : List (List Int)) (p : Int) : Bool := decide (most P (wop ls p) < most P ls)

theorem need_iff {P : Int} {ls : List (List Int)} (hv : Val P ls) {p : Int} (hp : 0 ≤ p) : needB P ls p = true ↔ ∀ g, Good P ls g → srv g = most P ls → p ∈ g := by
  have hP : 0 ≤ P := by have := hv.hP; omega
  have hin : ∀ l ∈ ls, ∀ q ∈ l, inP P q := fun l hl => (hv.l l hl).1
  have hin2 : ∀ l ∈ wop ls p, ∀ q ∈ l, inP P q := wop_in hin p
  unfold needB
  rw [decide_eq_true_iff]
  constructor
  · intro h g hg hs
    refine Classical.byContradiction fun hm => ?_
    have := (most_spec hP hin2).2 g ((good_wop hp).2 ⟨hg, hm⟩)
    omega
  · intro h
    obtain ⟨⟨g, hg, e⟩, _⟩ := most_spec hP hin2
    obtain ⟨h1, h2⟩ := (good_wop hp).1 hg
    have h3 := (most_spec hP hin).2 g h1
    rcases Nat.lt_or_ge (most P (wop ls p)) (most P ls) with h4 | h4
    · exact h4
    · exact absurd (h g h1 (by omega)) h2

/-- The same, in the document's words. -/
theorem need_bits {P : Int} {ls : List (List Int)} (hv : Val P ls) {p : Nat} : needB P ls p = true ↔ ∀ s, s < 2 ^ P.toNat → cF ls (-1) ls.length s = true → pc s = most P ls → s.testBit p = true := by
  have hP : 0 ≤ P := by have := hv.hP; omega
  have hin : ∀ l ∈ ls, ∀ q ∈ l, inP P q := fun l hl => (hv.l l hl).1
  have h0 : ∀ l ∈ ls, ∀ q ∈ l, 0 ≤ q := fun l hl q hq => (hin l hl q hq).1
  have hdr : drp ls (-1) = ls := drp_none ls
  have hpg : ∀ g, Pre ls (-1) ls.length g ↔ Good P ls g := fun g => by
    have := pre_good (wo := -1) (g := g) hin hP
    rwa [hdr] at this
  rw [need_iff hv (by omega)]
  constructor
  · intro h s _ hc hs
    obtain ⟨g, hg, rfl⟩ := (cF_iff h0 _ _).1 hc
    obtain ⟨b1, b2⟩ := mask_bits _ g hg
    exact (b1 p).2 (h g ((hpg g).1 hg) (by rw [← b2]; exact hs))
  · intro h g hg hs
    have hpre := (hpg g).2 hg
    obtain ⟨b1, b2⟩ := mask_bits _ g hpre
    exact (b1 p).1 (h (mask g) (mask_lt hin hpre) ((cF_iff h0 _ _).2 ⟨g, hpre, rfl⟩) (by rw [b2]; exact hs))

def needN (P : Int) (ls : List (List Int)) (n : Nat) : List Int := (nums n).filter (needB P ls)
theorem needN_succ (P : Int) (ls : List (List Int)) (n : Nat) : needN P ls (n + 1) = needN P ls n ++ if needB P ls n = true then [(n : Int)] else [] := by
  unfold needN
  rw [nums_succ, List.filter_append]
  simp only [List.filter_cons, List.filter_nil]
theorem needN_le (P : Int) (ls : List (List Int)) (n : Nat) : (needN P ls n).length ≤ n := by
  have := List.length_filter_le (needB P ls) (nums n)
  simp only [nums, List.length_map, List.length_range] at this
  exact this
def needL (P : Int) (ls : List (List Int)) : List Int := if vW P ls = 0 then needN P ls P.toNat else []

theorem s21 {P : Int} {ws : List (AV × List Int)} {v : AV} {A : AHeap} (hw : LL A v ws) (hs : Sz ws) : ACalls Try.prog 21 [.agg [I P, v]] A (.tuple [outV 1 A (needL P (lists ws)).length, I (vW P (lists ws))]) (outH A ((needL P (lists ws)).flatMap e1) (needL P (lists ws)).length) := by
  refine acalls hmix Try.func21 (by kernel_rfl) t21 1 rfl (by decide) ?_
  dsimp only [m21]
  simp (maxSteps := 4000000) -implicitDefEqProofs -dsimp (disch := omega) only [↓AW_ops, ↓AW_seq, ↓AOps_nil, ↓AOps_pu, ↓AOps_call, on_some, ↓then_normal, pval, rd_S, rd_C, put_S, chkd, bgot, cells_agg, partA, eq_self, List.replicate_succ, List.replicate_zero, List.set_cons_zero, List.set_cons_succ, List.getElem?_cons_zero, List.getElem?_cons_succ, List.drop_zero, List.take_succ_cons, List.take_nil, Option.getD_some, map_c, map_n, List.length_cons, List.length_nil, Nat.reduceAdd, Nat.reduceSub, Nat.reduceLeDiff, Nat.reduceEqDiff, Nat.zero_add, List.cons_append, List.nil_append, if_true, if_false]
  refine CallK.of (s39 hw hs) ?_
  by_cases h0 : vW P (lists ws) = 0
  · have hv := val_of h0
    have hP := hv.hP
    obtain ⟨N, hN⟩ : ∃ N : Nat, P = N := ⟨P.toNat, by omega⟩
    have hL : needL P (lists ws) = needN P (lists ws) N := by unfold needL; rw [if_pos h0, hN, Int.toNat_natCast]
    rw [hL, h0]
    simp (maxSteps := 4000000) -implicitDefEqProofs -dsimp (disch := omega) only [↓AW_skip, ↓AW_ops, ↓AW_seq, ↓AW_cond, ↓AW_block, ↓AOps_nil, ↓AOps_pu, on_some, extK_same, condB_f, ↓then_normal, pval, rd_S, rd_C, put_S, ↓AW_toLoop, chkd, isAdr, bgot, cells_agg, partA, eq_self, List.replicate_succ, List.replicate_zero, List.set_cons_zero, List.set_cons_succ, List.getElem?_cons_zero, List.getElem?_cons_succ, List.drop_zero, List.take_zero, List.take_succ_cons, Option.getD_some, List.length_cons, List.length_nil, Nat.reduceAdd, Nat.reduceSub, Nat.reduceLeDiff, Nat.zero_add, List.cons_append, List.nil_append, bin_neq, if_true, if_false, Bool.false_eq_true, decide_false, not_true_eq_false]
    refine LoopK.by 30 (fun x : Nat × AV × AHeap => x.1 ≤ N ∧ AccL 1 e1 A x.2.2 x.2.1 (needN P (lists ws) x.1)) (fun x => [(1, .agg [I P, v]), (5, x.2.1), (13, I P), (14, I x.1)]) (fun x => x.2.2) (fun x => N - x.1) (0, .nilS, A) ⟨by simp only; omega, AccL.nil (List.prefix_refl _)⟩ rfl (by simp [Has, rd_s]) rfl ?_
    rintro ⟨i, u, A1⟩ ⟨hi, hu⟩
    simp only at hi hu
    by_cases hlt : i < N
    · have hlt' : (i : Int) < P := by omega
      have hw1 := hw.mono hu.pre
      simp (maxSteps := 4000000) -implicitDefEqProofs -dsimp (disch := omega) only [↓AW_skip, ↓AW_ops, ↓AW_seq, ↓AW_cond, ↓AW_block, ↓AOps_nil, ↓AOps_pu, ↓AOps_call, on_some, condB_t, ↓then_normal, pval, rd_S, put_S, chkd, bgot, partA, eq_self, mk, List.foldl_cons, List.foldl_nil, List.replicate_succ, List.replicate_zero, List.set_cons_zero, List.set_cons_succ, List.getElem?_cons_zero, List.getElem?_cons_succ, List.drop_zero, List.take_succ_cons, List.take_nil, Option.getD_some, map_c, map_n, List.length_cons, List.length_nil, Nat.reduceAdd, Nat.reduceLeDiff, Nat.reduceEqDiff, Nat.zero_add, bin_lss, if_true, if_false, decide_true, hlt']
      obtain ⟨r, A2, hcall, v', ws', rfl, hp2, hnl, hli⟩ := s59 (P := P) (p := (i : Int)) hw1 hs
      refine CallK.of hcall ?_
      simp (maxSteps := 4000000) -implicitDefEqProofs -dsimp (disch := omega) only [↓AOps_call, extK_false, rd_S, put_S, mk, List.foldl_cons, List.foldl_nil, List.replicate_succ, List.replicate_zero, List.set_cons_zero, List.set_cons_succ, List.getElem?_cons_zero, List.getElem?_cons_succ, Option.getD_some, map_c, map_n]
      refine CallK.of (s56 (by rw [hli]; exact val_wop hv i) hnl.ll) ?_
      rw [hli]
      simp (maxSteps := 4000000) -implicitDefEqProofs -dsimp (disch := omega) only [↓AOps_pu, ↓AOps_call, on_some, extK_same, pval, rd_S, put_S, chkd, bgot, partA, eq_self, mk, List.foldl_cons, List.foldl_nil, List.replicate_succ, List.replicate_zero, List.set_cons_zero, List.set_cons_succ, List.getElem?_cons_zero, List.getElem?_cons_succ, List.drop_zero, List.take_succ_cons, List.take_nil, Option.getD_some, map_c, map_n, List.length_cons, List.length_nil, Nat.reduceAdd, Nat.reduceLeDiff, Nat.reduceEqDiff, Nat.zero_add, if_true, if_false]
      refine CallK.of (s56 hv (hw1.mono hp2)) ?_
      have hu2 := hu.mono hp2
      have hle := needN_le P (lists ws) i
      by_cases hlt2 : most P (wop (lists ws) i) < most P (lists ws)
      · have hb : needB P (lists ws) i = true := decide_eq_true hlt2
        have hlt3 : ((most P (wop (lists ws) i) : Nat) : Int) < ((most P (lists ws) : Nat) : Int) := by omega
        obtain ⟨v4, A4, happ, h4⟩ := hu2.push e1_len (i : Int) (by simp [lim]; omega)
        simp only [Go.Eng.e1] at happ
        simp (maxSteps := 4000000) -implicitDefEqProofs -dsimp (disch := omega) only [↓AW_ops, ↓AW_cond, ↓AOps_nil, ↓AOps_pu, ↓AOps_ha, on_some, extK_false, extK_app, extK_same, condB_t, ↓then_normal, ↓inBlock_normal, pval, hval_blds, hval_app, rd_S, rd_C, put_S, cells_int, splice, fillA, repl, eq_self, mk, List.foldl_cons, List.foldl_nil, List.replicate_succ, List.replicate_zero, List.set_cons_zero, List.set_cons_succ, List.getElem?_cons_zero, List.getElem?_cons_succ, List.drop_succ_cons, List.drop_nil, List.take_zero, Option.getD_some, map_c, map_n, List.length_cons, List.length_nil, Nat.reduceAdd, Nat.reduceLeDiff, Nat.zero_add, List.nil_append, List.append_nil, bin_add, bin_lss, w64, if_true, decide_true, true_and, and_true, hlt3, happ]
        refine ⟨(i + 1, v4, A4), ⟨hlt, ?_⟩, by simp [Has, rd_s], rfl, by simp only; omega⟩
        simp only
        rw [needN_succ, if_pos hb]
        exact h4
      · have hb : ¬ needB P (lists ws) i = true := by unfold needB; simpa using hlt2
        have hlt3 : ¬ ((most P (wop (lists ws) i) : Nat) : Int) < ((most P (lists ws) : Nat) : Int) := by omega
        simp (maxSteps := 4000000) -implicitDefEqProofs -dsimp (disch := omega) only [↓AW_skip, ↓AW_ops, ↓AW_cond, ↓AOps_nil, ↓AOps_pu, on_some, extK_same, condB_f, ↓then_normal, ↓inBlock_normal, pval, rd_S, rd_C, put_S, eq_self, mk, List.foldl_cons, List.foldl_nil, List.replicate_succ, List.replicate_zero, List.set_cons_zero, List.set_cons_succ, List.getElem?_cons_zero, List.getElem?_cons_succ, Option.getD_some, List.length_cons, List.length_nil, Nat.reduceAdd, Nat.zero_add, bin_add, bin_lss, w64, decide_false, true_and, hlt3]
        refine ⟨(i + 1, u, A2), ⟨hlt, ?_⟩, by simp [Has, rd_s], rfl, by simp only; omega⟩
        simp only
        rw [needN_succ, if_neg hb, List.append_nil]
        exact hu2
    · have hlt' : ¬ ((i : Int) < P) := by omega
      have hii : i = N := by omega
      subst hii
      simp (maxSteps := 4000000) -implicitDefEqProofs -dsimp (disch := omega) only [↓AW_ops, ↓AW_seq, ↓AW_cond, ↓AW_exit, ↓AW_ret, ↓AOps_nil, ↓AOps_pu, on_some, condB_f, ↓then_normal, ↓then_exit, ↓inBlock_exit, ↓Fin_ret, pval, rd_S, rd_C, put_S, resV, resL, eq_self, mk, List.foldl_cons, List.foldl_nil, List.replicate_succ, List.replicate_zero, List.set_cons_zero, List.set_cons_succ, List.getElem?_cons_zero, List.getElem?_cons_succ, Option.getD_some, bin_lss, if_true, decide_false, hlt']
      exact hu.gc2 flat_e1 (I 0) rfl
  · have hL : needL P (lists ws) = [] := by unfold needL; rw [if_neg h0]
    rw [hL]
    simp (maxSteps := 4000000) -implicitDefEqProofs -dsimp (disch := omega) only [↓AW_ops, ↓AW_seq, ↓AW_cond, ↓AW_ret, ↓AOps_nil, ↓AOps_pu, on_some, extK_same, condB_t, ↓then_normal, ↓then_ret, ↓Fin_ret, pval, rd_S, rd_C, put_S, resV, resL, List.replicate_succ, List.replicate_zero, List.set_cons_zero, List.set_cons_succ, List.getElem?_cons_zero, List.getElem?_cons_succ, Option.getD_some, List.length_nil, Nat.reduceSub, List.cons_append, List.nil_append, bin_neq, decide_true, not_false_eq_true, h0]
    exact gc_same_all rfl rfl

def shrOk (s p : Nat) : Bool := match binI .shr (I (s : Int)) (.int .u64 (p : Int)) with
  | some (.int .i64 a) => match binI .and (.int .i64 a) (I 1) with
    | some (.int .i64 b) => decide (b = if s.testBit p then 1 else 0)
    | _ => false
  | _ => false
set_option maxRecDepth 100000 in
theorem shr_run : ((List.range 128).all fun s => (List.range 8).all fun p => shrOk s p) = true := by kernel_rfl
theorem shr_facts {s p : Nat} (hs : s < 128) (hp : p < 8) : ∃ a : Int, binI .shr (I (s : Int)) (.int .u64 (p : Int)) = some (I a) ∧ binI .and (I a) (I 1) = some (I (if s.testBit p = true then 1 else 0)) := by
  have h := List.all_eq_true.1 (List.all_eq_true.1 shr_run s (List.mem_range.2 hs)) p (List.mem_range.2 hp)
  unfold shrOk at h
  split at h
  · rename_i a e1'
    split at h
    · rename_i b e2'
      exact ⟨a, e1', by rw [e2', of_decide_eq_true h]⟩
    · cases h
  · cases h

/-- One of the first n sets that are as large as can be leaves the place out. -/
def lacks (P : Int) (ls : List (List Int)) (p n : Nat) : Bool := (List.range n).any (fun s => cF ls (-1) ls.length s && decide (pc s = most P ls) && !s.testBit p)
theorem lacks_succ (P : Int) (ls : List (List Int)) (p n : Nat) : lacks P ls p (n + 1) = (lacks P ls p n || (cF ls (-1) ls.length n && decide (pc n = most P ls) && !n.testBit p)) := by
  unfold lacks
  rw [List.range_succ, List.any_append]
  simp
theorem lacks_need {P : Int} {ls : List (List Int)} (hv : Val P ls) (p : Nat) : (!lacks P ls p (2 ^ P.toNat)) = needB P ls p := by
  rw [Bool.eq_iff_iff, need_bits hv]
  unfold lacks
  simp only [Bool.not_eq_true', List.any_eq_false, List.mem_range, Bool.and_eq_true, decide_eq_true_eq]
  constructor
  · intro h s hs hc hp
    have := h s hs
    cases hb : s.testBit p with
    | true => rfl
    | false => exact absurd ⟨⟨hc, hp⟩, by rw [hb]⟩ this
  · intro h s hs hh
    have := h s hs hh.1.1 hh.1.2
    rw [this] at hh
    exact absurd hh.2 (by simp)

theorem s22 {P : Int} {ws : List (AV × List Int)} {v : AV} {A : AHeap} (hw : LL A v ws) (hs : Sz ws) : ACalls Try.prog 22 [.agg [I P, v]] A (.tuple [outV 1 A (needL P (lists ws)).length, I (vW P (lists ws))]) (outH A ((needL P (lists ws)).flatMap e1) (needL P (lists ws)).length) := by
  refine acalls hmix Try.func22 (by kernel_rfl) t22 1 rfl (by decide) ?_
  dsimp only [m22]
  simp (maxSteps := 4000000) -implicitDefEqProofs -dsimp (disch := omega) only [↓AW_ops, ↓AW_seq, ↓AOps_nil, ↓AOps_pu, ↓AOps_call, on_some, ↓then_normal, pval, rd_S, rd_C, put_S, chkd, bgot, cells_agg, partA, eq_self, List.replicate_succ, List.replicate_zero, List.set_cons_zero, List.set_cons_succ, List.getElem?_cons_zero, List.getElem?_cons_succ, List.drop_zero, List.take_succ_cons, List.take_nil, Option.getD_some, map_c, map_n, List.length_cons, List.length_nil, Nat.reduceAdd, Nat.reduceSub, Nat.reduceLeDiff, Nat.reduceEqDiff, Nat.zero_add, List.cons_append, List.nil_append, if_true, if_false]
  refine CallK.of (s40 hw hs) ?_
  by_cases h0 : vW P (lists ws) = 0
  · have hv := val_of h0
    have hP := hv.hP
    have hls : ∀ l ∈ lists ws, ∀ p ∈ l, inP P p := fun l hl => (hv.l l hl).1
    have hpow : 2 ^ P.toNat ≤ 128 := by
      have : 2 ^ P.toNat ≤ 2 ^ 7 := Nat.pow_le_pow_right (by omega) (by omega)
      omega
    have hL : needL P (lists ws) = needN P (lists ws) P.toNat := by unfold needL; rw [if_pos h0]
    rw [hL, h0]
    have hmb : mb (cF (lists ws) (-1) ws.length) (2 ^ P.toNat) = most P (lists ws) := by
      have := mb_most (by omega) hls (-1)
      rwa [List.length_map, drp_none] at this
    have hll : (lists ws).length = ws.length := by simp
    simp (maxSteps := 4000000) -implicitDefEqProofs -dsimp (disch := omega) only [↓AW_skip, ↓AW_ops, ↓AW_seq, ↓AW_cond, ↓AOps_nil, ↓AOps_pu, ↓AOps_call, on_some, extK_same, condB_f, ↓then_normal, pval, rd_S, rd_C, put_S, chkd, bgot, partA, eq_self, List.replicate_succ, List.replicate_zero, List.set_cons_zero, List.set_cons_succ, List.getElem?_cons_zero, List.getElem?_cons_succ, List.drop_zero, List.take_succ_cons, List.take_nil, Option.getD_some, map_c, map_n, List.length_cons, List.length_nil, Nat.reduceAdd, Nat.reduceSub, Nat.reduceLeDiff, Nat.reduceEqDiff, Nat.zero_add, List.cons_append, List.nil_append, bin_neq, if_true, if_false, decide_false, not_true_eq_false, Int.reduceNeg]
    refine CallK.of (s58 hv hw (-1)) ?_
    have p1 := pre_app A [.cells true ((tb (2 ^ P.toNat) (cF (lists ws) (-1) ws.length)).flatMap eb)]
    have k1 : Lb (A ++ [.cells true ((tb (2 ^ P.toNat) (cF (lists ws) (-1) ws.length)).flatMap eb)]) (.sl 1 A.length 0 (2 ^ P.toNat) false) (tb (2 ^ P.toNat) (cF (lists ws) (-1) ws.length)) := by
      have := (OL.new_mk eb_len A (tb (2 ^ P.toNat) (cF (lists ws) (-1) ws.length)) false).ls
      rwa [tb_len] at this
    generalize A ++ [AObj.cells true ((tb (2 ^ P.toNat) (cF (lists ws) (-1) ws.length)).flatMap eb)] = A1 at *
    generalize AV.sl 1 A.length 0 (2 ^ P.toNat) false = y1 at *
    have hlenP : lenA y1 = some (I ((2 ^ P.toNat : Nat) : Int)) := by have := k1.len; rwa [tb_len] at this
    simp (maxSteps := 4000000) -implicitDefEqProofs -dsimp (disch := omega) only [↓AW_ops, ↓AW_seq, ↓AW_block, ↓AOps_nil, ↓AOps_pu, on_some, extK_false, ↓then_normal, pval, rd_S, rd_C, put_S, ↓AW_toLoop, List.replicate_succ, List.replicate_zero, List.set_cons_zero, List.set_cons_succ, List.getElem?_cons_zero, List.getElem?_cons_succ, Option.getD_some, Nat.reduceSub, List.cons_append, List.nil_append]
    refine LoopK.by 54 (fun x : Nat × AV × AHeap => x.1 ≤ P.toNat ∧ AccL 1 e1 A1 x.2.2 x.2.1 (needN P (lists ws) x.1)) (fun x => [(1, .agg [I P, v]), (5, y1), (6, x.2.1), (7, I x.1)]) (fun x => x.2.2) (fun x => P.toNat - x.1) (0, .nilS, A1) ⟨by simp only; omega, AccL.nil (List.prefix_refl _)⟩ rfl (by simp [Has, rd_s]) rfl ?_
    rintro ⟨i, u, A2⟩ ⟨hi, hu⟩
    simp only at hi hu
    have k2 := k1.mono hu.pre
    by_cases hlt : i < P.toNat
    · have hlt' : (i : Int) < P := by omega
      simp (maxSteps := 4000000) -implicitDefEqProofs -dsimp (disch := omega) only [↓AW_skip, ↓AW_ops, ↓AW_seq, ↓AW_cond, ↓AW_block, ↓AOps_nil, ↓AOps_pu, on_some, condB_t, ↓then_normal, pval, rd_S, rd_C, put_S, ↓AW_toLoop, chkd, isAdr, bgot, cells_agg, partA, eq_self, mk, List.foldl_cons, List.foldl_nil, List.replicate_succ, List.replicate_zero, List.set_cons_zero, List.set_cons_succ, List.getElem?_cons_zero, List.getElem?_cons_succ, List.drop_zero, List.take_zero, List.take_succ_cons, Option.getD_some, List.length_cons, List.length_nil, Nat.reduceAdd, Nat.reduceLeDiff, Nat.zero_add, bin_lss, if_true, if_false, Bool.false_eq_true, decide_true, hlt']
      refine LoopK.by 54 (fun s : Nat => s ≤ 2 ^ P.toNat) (fun s => [(1, .agg [I P, v]), (5, y1), (6, u), (7, I i), (8, B (!lacks P (lists ws) i s)), (9, I s)]) (fun _ => A2) (fun s => 2 ^ P.toNat - s) 0 (Nat.zero_le _) rfl (by simp [Has, rd_s, lacks]) rfl ?_
      intro s hsl
      by_cases hlts : s < 2 ^ P.toNat
      · have hlts' : (s : Int) < ((2 ^ P.toNat : Nat) : Int) := by omega
        have hsx : s < (tb (2 ^ P.toNat) (cF (lists ws) (-1) ws.length)).length := by rw [tb_len]; exact hlts
        have hgx := tb_get (f := cF (lists ws) (-1) ws.length) hlts
        obtain ⟨a, ha1, ha2⟩ := shr_facts (s := s) (p := i) (by omega) (by omega)
        have hcv := u64w (i : Int) (by omega) (by omega)
        have hsucc := lacks_succ P (lists ws) i s
        rw [hll] at hsucc
        cases hc : cF (lists ws) (-1) ws.length s with
        | false =>
          rw [hc] at hgx hsucc
          simp only [Bool.false_and, Bool.or_false] at hsucc
          simp (maxSteps := 4000000) -implicitDefEqProofs -dsimp (disch := omega) only [↓AW_skip, ↓AW_ops, ↓AW_seq, ↓AW_cond, ↓AW_block, ↓AOps_nil, ↓AOps_pu, ↓AOps_ld, ↓AOps_guard, on_some, guardB_ft, skipS_some, condB_t, condB_f, ↓then_normal, ↓inBlock_normal, pval, lval, rd_S, rd_C, put_S, partA, eq_self, mk, List.foldl_cons, List.foldl_nil, List.replicate_succ, List.replicate_zero, List.set_cons_zero, List.set_cons_succ, List.getElem?_cons_zero, List.getElem?_cons_succ, List.drop_zero, List.take_succ_cons, List.take_nil, Option.getD_some, List.length_cons, List.length_nil, Nat.reduceAdd, Nat.reduceLeDiff, Nat.zero_add, bin_add, bin_lss, w64, if_true, if_false, Bool.false_eq_true, decide_true, true_and, hlts', hlenP, k2.idx hsx, k2.ld0 hgx 1 false (by decide), eb]
          exact ⟨s + 1, hlts, by simp [Has, rd_s, hsucc], by omega⟩
        | true =>
          rw [hc] at hgx hsucc
          simp only [Bool.true_and] at hsucc
          simp (maxSteps := 4000000) -implicitDefEqProofs -dsimp (disch := omega) only [↓AW_skip, ↓AW_ops, ↓AW_seq, ↓AW_cond, ↓AW_block, ↓AOps_nil, ↓AOps_pu, ↓AOps_ld, ↓AOps_call, ↓AOps_guard, on_some, guardB_tt, condB_t, ↓then_normal, pval, lval, rd_S, put_S, partA, eq_self, mk, List.foldl_cons, List.foldl_nil, List.replicate_succ, List.replicate_zero, List.set_cons_zero, List.set_cons_succ, List.getElem?_cons_zero, List.getElem?_cons_succ, List.drop_zero, List.take_succ_cons, List.take_nil, Option.getD_some, map_c, map_n, List.length_cons, List.length_nil, Nat.reduceLeDiff, Nat.zero_add, bin_lss, if_true, if_false, Bool.false_eq_true, decide_true, hlts', hlenP, k2.idx hsx, k2.ld0 hgx 1 false (by decide), eb]
          refine CallK.of (s60 s (by omega) A2) ?_
          simp (maxSteps := 4000000) -implicitDefEqProofs -dsimp (disch := omega) only [↓AOps_pu, ↓AOps_call, ↓AOps_guard, on_some, extK_same, guardB_tt, pval, rd_S, put_S, mk, List.foldl_cons, List.foldl_nil, List.replicate_succ, List.replicate_zero, List.set_cons_zero, List.set_cons_succ, List.getElem?_cons_zero, List.getElem?_cons_succ, Option.getD_some, map_c, map_n]
          refine CallK.of (s57 k2 (by omega)) ?_
          rw [hmb]
          by_cases hpc : pc s = most P (lists ws)
          · have hpc' : ((pc s : Nat) : Int) = ((most P (lists ws) : Nat) : Int) := by omega
            rw [decide_eq_true hpc, Bool.true_and] at hsucc
            cases hb : s.testBit i with
            | true =>
              rw [hb] at ha2 hsucc
              simp only [Bool.not_true, Bool.or_false] at hsucc
              simp only [if_true] at ha2
              simp (maxSteps := 4000000) -implicitDefEqProofs -dsimp (disch := omega) only [↓AW_skip, ↓AW_ops, ↓AW_cond, ↓AOps_nil, ↓AOps_pu, ↓AOps_guard, on_some, extK_same, guardB_tt, condB_f, ↓then_normal, ↓inBlock_normal, pval, rd_S, rd_C, put_S, eq_self, mk, List.foldl_cons, List.foldl_nil, List.replicate_succ, List.replicate_zero, List.set_cons_zero, List.set_cons_succ, List.getElem?_cons_zero, List.getElem?_cons_succ, Option.getD_some, List.length_cons, List.length_nil, Nat.reduceAdd, Nat.zero_add, bin_add, bin_eql, w64, if_true, decide_true, decide_false, true_and, Int.reduceEq, hpc', hcv, ha1, ha2]
              exact ⟨s + 1, hlts, by simp [Has, rd_s, hsucc], by omega⟩
            | false =>
              rw [hb] at ha2 hsucc
              simp only [Bool.not_false, Bool.or_true] at hsucc
              simp only [Bool.false_eq_true, if_false] at ha2
              simp (maxSteps := 4000000) -implicitDefEqProofs -dsimp (disch := omega) only [↓AW_ops, ↓AW_cond, ↓AOps_nil, ↓AOps_pu, ↓AOps_guard, on_some, extK_same, guardB_tt, condB_t, ↓then_normal, ↓inBlock_normal, pval, rd_S, rd_C, put_S, eq_self, mk, List.foldl_cons, List.foldl_nil, List.replicate_succ, List.replicate_zero, List.set_cons_zero, List.set_cons_succ, List.getElem?_cons_zero, List.getElem?_cons_succ, Option.getD_some, List.length_cons, List.length_nil, Nat.reduceAdd, Nat.zero_add, bin_add, bin_eql, w64, if_true, decide_true, true_and, hpc', hcv, ha1, ha2]
              exact ⟨s + 1, hlts, by simp [Has, rd_s, hsucc], by omega⟩
          · have hpc' : ¬ ((pc s : Nat) : Int) = ((most P (lists ws) : Nat) : Int) := by omega
            rw [decide_eq_false hpc, Bool.false_and, Bool.or_false] at hsucc
            simp (maxSteps := 4000000) -implicitDefEqProofs -dsimp (disch := omega) only [↓AW_skip, ↓AW_ops, ↓AW_cond, ↓AOps_nil, ↓AOps_pu, ↓AOps_guard, on_some, extK_same, guardB_tt, guardB_ft, skipS_some, condB_f, ↓then_normal, ↓inBlock_normal, pval, rd_S, rd_C, put_S, eq_self, mk, List.foldl_cons, List.foldl_nil, List.replicate_succ, List.replicate_zero, List.set_cons_zero, List.set_cons_succ, List.getElem?_cons_zero, List.getElem?_cons_succ, Option.getD_some, List.length_cons, List.length_nil, Nat.reduceAdd, Nat.zero_add, bin_add, bin_eql, w64, if_true, if_false, Bool.false_eq_true, decide_false, true_and, hpc']
            exact ⟨s + 1, hlts, by simp [Has, rd_s, hsucc], by omega⟩
      · have hlts' : ¬ ((s : Int) < ((2 ^ P.toNat : Nat) : Int)) := by omega
        have hse : s = 2 ^ P.toNat := by omega
        subst hse
        have hnb := lacks_need hv i
        have hle := needN_le P (lists ws) i
        rw [hnb]
        by_cases hb : needB P (lists ws) i = true
        · obtain ⟨v4, A4, happ, h4⟩ := hu.push e1_len (i : Int) (by simp [lim]; omega)
          simp only [Go.Eng.e1] at happ
          simp (maxSteps := 4000000) -implicitDefEqProofs -dsimp (disch := omega) only [↓AW_ops, ↓AW_seq, ↓AW_cond, ↓AW_exit, ↓AW_ret, ↓AOps_nil, ↓AOps_pu, ↓AOps_ha, on_some, extK_false, extK_app, condB_t, condB_f, ↓then_normal, ↓then_exit, ↓inBlock_normal, ↓inBlock_exit, ↓Fin_ret, pval, hval_blds, hval_app, rd_S, rd_C, put_S, resV, resL, cells_int, splice, fillA, repl, eq_self, mk, List.foldl_cons, List.foldl_nil, List.replicate_succ, List.replicate_zero, List.set_cons_zero, List.set_cons_succ, List.getElem?_cons_zero, List.getElem?_cons_succ, List.drop_succ_cons, List.drop_nil, List.take_zero, Option.getD_some, map_c, map_n, List.length_cons, List.length_nil, Nat.reduceAdd, Nat.reduceLeDiff, Nat.reduceEqDiff, Nat.zero_add, List.nil_append, List.append_nil, bin_add, bin_lss, w64, if_true, if_false, decide_false, true_and, and_true, reduceCtorEq, hlts', hlenP, hb, happ]
          refine ⟨(i + 1, v4, A4), ⟨hlt, ?_⟩, by simp [Has, rd_s], rfl, by simp only; omega⟩
          simp only
          rw [needN_succ, if_pos hb]
          exact h4
        · have hb' : needB P (lists ws) i = false := by simpa using hb
          simp (maxSteps := 4000000) -implicitDefEqProofs -dsimp (disch := omega) only [↓AW_skip, ↓AW_ops, ↓AW_seq, ↓AW_cond, ↓AW_exit, ↓AW_ret, ↓AOps_nil, ↓AOps_pu, on_some, condB_f, ↓then_normal, ↓then_exit, ↓inBlock_normal, ↓inBlock_exit, ↓Fin_ret, pval, rd_S, rd_C, put_S, resV, resL, eq_self, mk, List.foldl_cons, List.foldl_nil, List.replicate_succ, List.replicate_zero, List.set_cons_zero, List.set_cons_succ, List.getElem?_cons_zero, List.getElem?_cons_succ, Option.getD_some, List.length_cons, List.length_nil, Nat.reduceAdd, Nat.reduceEqDiff, Nat.zero_add, bin_add, bin_lss, w64, if_true, if_false, decide_false, true_and, reduceCtorEq, hlts', hlenP, hb']
          refine ⟨(i + 1, u, A2), ⟨hlt, ?_⟩, by simp [Has, rd_s], rfl, by simp only; omega⟩
          simp only
          rw [needN_succ, if_neg hb, List.append_nil]
          exact hu
    · have hlt' : ¬ ((i : Int) < P) := by omega
      have hii : i = P.toNat := by omega
      subst hii
      simp (maxSteps := 4000000) -implicitDefEqProofs -dsimp (disch := omega) only [↓AW_ops, ↓AW_seq, ↓AW_cond, ↓AW_exit, ↓AW_ret, ↓AOps_nil, ↓AOps_pu, on_some, condB_f, ↓then_normal, ↓then_exit, ↓inBlock_exit, ↓Fin_ret, pval, rd_S, rd_C, put_S, resV, resL, chkd, isAdr, bgot, cells_agg, partA, eq_self, mk, List.foldl_cons, List.foldl_nil, List.replicate_succ, List.replicate_zero, List.set_cons_zero, List.set_cons_succ, List.getElem?_cons_zero, List.getElem?_cons_succ, List.drop_zero, List.take_zero, List.take_succ_cons, Option.getD_some, List.length_cons, List.length_nil, Nat.reduceAdd, Nat.reduceLeDiff, Nat.zero_add, bin_lss, if_true, if_false, Bool.false_eq_true, decide_false, hlt']
      exact (AccL_base0 p1 hu).gc2 flat_e1 (I 0) rfl
  · have hL : needL P (lists ws) = [] := by unfold needL; rw [if_neg h0]
    rw [hL]
    simp (maxSteps := 4000000) -implicitDefEqProofs -dsimp (disch := omega) only [↓AW_ops, ↓AW_seq, ↓AW_cond, ↓AW_ret, ↓AOps_nil, ↓AOps_pu, on_some, extK_same, condB_t, ↓then_normal, ↓then_ret, ↓Fin_ret, pval, rd_S, rd_C, put_S, resV, resL, List.replicate_succ, List.replicate_zero, List.set_cons_zero, List.set_cons_succ, List.getElem?_cons_zero, List.getElem?_cons_succ, Option.getD_some, List.length_nil, Nat.reduceSub, List.cons_append, List.nil_append, bin_neq, decide_true, not_false_eq_true, h0]
    exact gc_same_all rfl rfl

theorem sureL_le {P : Int} {ls : List (List Int)} : (sureL P ls).length ≤ ls.length := by
  unfold sureL
  split
  · exact sureN_le P ls ls.length
  · simp
theorem needL_le {P : Int} {ls : List (List Int)} : (needL P ls).length ≤ 7 := by
  unfold needL
  split
  · rename_i h
    have h1 := needN_le P ls P.toNat
    have := vW_P7 h
    omega
  · simp

set_option maxRecDepth 100000 in
set_option maxHeartbeats 4000000 in
theorem s3 {P : Int} {ws : List (AV × List Int)} {v : AV} {A : AHeap} (hw : LL A v ws) (hl : ws.length ≤ 9223372036854775807) : ACalls Try.prog 3 [.agg [I P, v]] A (B true) A := by
  refine acalls hmix Try.func3 (by kernel_rfl) t3 1 rfl (by decide) ?_
  dsimp only [m3]
  simp (maxSteps := 4000000) -implicitDefEqProofs -dsimp (disch := omega) only [↓AW_ops, ↓AW_seq, ↓AOps_nil, ↓AOps_pu, ↓AOps_call, on_some, ↓then_normal, pval, rd_S, rd_C, put_S, chkd, bgot, AV.cells?, partA, eq_self, List.replicate_succ, List.replicate_zero, List.set_cons_zero, List.set_cons_succ, List.getElem?_cons_zero, List.getElem?_cons_succ, List.drop_zero, List.take_succ_cons, List.take_nil, Option.getD_some, map_c, map_n, List.length_cons, List.length_nil, Nat.reduceAdd, Nat.reduceSub, Nat.reduceLeDiff, Nat.reduceEqDiff, Nat.zero_add, List.cons_append, List.nil_append, if_true, if_false]
  refine CallK.of (s17 hw hl) ?_
  by_cases h : longW ws
  · rw [decide_eq_true h]
    simp (maxSteps := 4000000) -implicitDefEqProofs -dsimp (disch := omega) only [↓AW_ops, ↓AW_seq, ↓AW_cond, ↓AOps_nil, ↓AOps_call, extK_same, condB_t, ↓then_normal, rd_S, put_S, List.replicate_succ, List.replicate_zero, List.set_cons_zero, List.set_cons_succ, List.getElem?_cons_zero, List.getElem?_cons_succ, Option.getD_some, map_n, Nat.reduceSub, List.cons_append, List.nil_append]
    refine CallK.of (known A) ?_
    simp (maxSteps := 4000000) -implicitDefEqProofs -dsimp (disch := omega) only [↓AW_ret, ↓AOps_nil, ↓AOps_pu, on_some, extK_same, ↓then_normal, ↓then_ret, ↓Fin_ret, pval, rd_S, put_S, resV, resL, List.replicate_succ, List.replicate_zero, List.set_cons_zero, List.set_cons_succ, List.getElem?_cons_zero, List.getElem?_cons_succ, Option.getD_some, Nat.reduceSub, List.cons_append, List.nil_append]
    exact gc_same rfl
  · have hs := Sz_of h
    have hs1 := hs.1
    rw [decide_eq_false h]
    have l1 := sureL_le (P := P) (ls := lists ws)
    have l2 := needL_le (P := P) (ls := lists ws)
    rw [List.length_map] at l1
    simp (maxSteps := 4000000) -implicitDefEqProofs -dsimp (disch := omega) only [↓AW_skip, ↓AW_ops, ↓AW_seq, ↓AW_cond, ↓AOps_nil, ↓AOps_pu, ↓AOps_call, on_some, extK_same, condB_f, ↓then_normal, pval, rd_S, put_S, chkd, bgot, partA, eq_self, List.replicate_succ, List.replicate_zero, List.set_cons_zero, List.set_cons_succ, List.getElem?_cons_zero, List.getElem?_cons_succ, List.drop_zero, List.take_succ_cons, List.take_nil, Option.getD_some, map_c, map_n, List.length_cons, List.length_nil, Nat.reduceAdd, Nat.reduceSub, Nat.reduceLeDiff, Nat.reduceEqDiff, Nat.zero_add, List.cons_append, List.nil_append, if_true, if_false]
    refine CallK.of (s19 hw hs) ?_
    have p1 := pre_out A ((sureL P (lists ws)).flatMap Go.Eng.e1) (sureL P (lists ws)).length
    have hL1 := Ls_out A e1_len (sureL P (lists ws))
    generalize outH A ((sureL P (lists ws)).flatMap Go.Eng.e1) (sureL P (lists ws)).length = A1 at *
    generalize outV 1 A (sureL P (lists ws)).length = y1 at *
    simp (maxSteps := 4000000) -implicitDefEqProofs -dsimp (disch := omega) only [↓AW_ops, ↓AW_seq, ↓AOps_nil, ↓AOps_pu, ↓AOps_call, on_some, extK_false, ↓then_normal, pval, rd_S, put_S, chkd, bgot, partA, eq_self, List.replicate_succ, List.replicate_zero, List.set_cons_zero, List.set_cons_succ, List.getElem?_cons_zero, List.getElem?_cons_succ, List.drop_zero, List.take_succ_cons, List.take_nil, Option.getD_some, map_c, map_n, List.length_cons, List.length_nil, Nat.reduceAdd, Nat.reduceSub, Nat.reduceLeDiff, Nat.reduceEqDiff, Nat.zero_add, List.cons_append, List.nil_append, if_true, if_false]
    refine CallK.of (s20 (hw.mono p1) hs) ?_
    have p2 := pre_out A1 ((sureL P (lists ws)).flatMap Go.Eng.e1) (sureL P (lists ws)).length
    have hL2 := Ls_out A1 e1_len (sureL P (lists ws))
    generalize outH A1 ((sureL P (lists ws)).flatMap Go.Eng.e1) (sureL P (lists ws)).length = A2 at *
    generalize outV 1 A1 (sureL P (lists ws)).length = y2 at *
    have p12 := p1.trans p2
    simp (maxSteps := 4000000) -implicitDefEqProofs -dsimp (disch := omega) only [↓AW_ops, ↓AW_seq, ↓AOps_nil, ↓AOps_pu, ↓AOps_call, on_some, extK_false, ↓then_normal, pval, rd_S, put_S, chkd, bgot, partA, eq_self, List.replicate_succ, List.replicate_zero, List.set_cons_zero, List.set_cons_succ, List.getElem?_cons_zero, List.getElem?_cons_succ, List.drop_zero, List.take_succ_cons, List.take_nil, Option.getD_some, map_c, map_n, List.length_cons, List.length_nil, Nat.reduceAdd, Nat.reduceSub, Nat.reduceLeDiff, Nat.reduceEqDiff, Nat.zero_add, List.cons_append, List.nil_append, if_true, if_false]
    refine CallK.of (s21 (hw.mono p12) hs) ?_
    have p3 := pre_out A2 ((needL P (lists ws)).flatMap Go.Eng.e1) (needL P (lists ws)).length
    have hL3 := Ls_out A2 e1_len (needL P (lists ws))
    generalize outH A2 ((needL P (lists ws)).flatMap Go.Eng.e1) (needL P (lists ws)).length = A3 at *
    generalize outV 1 A2 (needL P (lists ws)).length = y3 at *
    have p13 := p12.trans p3
    simp (maxSteps := 4000000) -implicitDefEqProofs -dsimp (disch := omega) only [↓AW_ops, ↓AW_seq, ↓AOps_nil, ↓AOps_pu, ↓AOps_call, on_some, extK_false, ↓then_normal, pval, rd_S, put_S, chkd, bgot, partA, eq_self, List.replicate_succ, List.replicate_zero, List.set_cons_zero, List.set_cons_succ, List.getElem?_cons_zero, List.getElem?_cons_succ, List.drop_zero, List.take_succ_cons, List.take_nil, Option.getD_some, map_c, map_n, List.length_cons, List.length_nil, Nat.reduceAdd, Nat.reduceSub, Nat.reduceLeDiff, Nat.reduceEqDiff, Nat.zero_add, List.cons_append, List.nil_append, if_true, if_false]
    refine CallK.of (s22 (hw.mono p13) hs) ?_
    have p4 := pre_out A3 ((needL P (lists ws)).flatMap Go.Eng.e1) (needL P (lists ws)).length
    have hL4 := Ls_out A3 e1_len (needL P (lists ws))
    generalize outH A3 ((needL P (lists ws)).flatMap Go.Eng.e1) (needL P (lists ws)).length = A4 at *
    generalize outV 1 A3 (needL P (lists ws)).length = y4 at *
    have p14 := p13.trans p4
    simp (maxSteps := 4000000) -implicitDefEqProofs -dsimp (disch := omega) only [↓AW_ops, ↓AW_seq, ↓AOps_nil, ↓AOps_pu, ↓AOps_call, on_some, extK_false, ↓then_normal, pval, rd_S, put_S, List.replicate_succ, List.replicate_zero, List.set_cons_zero, List.set_cons_succ, List.getElem?_cons_zero, List.getElem?_cons_succ, Option.getD_some, map_c, map_n, Nat.reduceSub, List.cons_append, List.nil_append]
    refine CallK.of (c_SameInts (hL1.mono (p2.trans (p3.trans p4))) (hL2.mono (p3.trans p4)) (by omega)) ?_
    rw [decide_eq_true (rfl : sureL P (lists ws) = sureL P (lists ws))]
    simp (maxSteps := 4000000) -implicitDefEqProofs -dsimp (disch := omega) only [↓AOps_pu, ↓AOps_call, ↓AOps_guard, on_some, extK_same, guardB_tt, pval, rd_S, rd_C, put_S, eq_self, List.replicate_succ, List.replicate_zero, List.set_cons_zero, List.set_cons_succ, List.getElem?_cons_zero, List.getElem?_cons_succ, Option.getD_some, map_c, map_n, Nat.reduceSub, List.cons_append, List.nil_append, bin_eql, if_true, decide_true]
    refine CallK.of (c_SameInts (hL3.mono p4) hL4 (by omega)) ?_
    rw [decide_eq_true (rfl : needL P (lists ws) = needL P (lists ws))]
    simp (maxSteps := 4000000) -implicitDefEqProofs -dsimp (disch := omega) only [↓AOps_pu, ↓AOps_call, ↓AOps_guard, on_some, extK_same, guardB_tt, pval, rd_S, rd_C, put_S, eq_self, List.replicate_succ, List.replicate_zero, List.set_cons_zero, List.set_cons_succ, List.getElem?_cons_zero, List.getElem?_cons_succ, Option.getD_some, map_n, Nat.reduceSub, List.cons_append, List.nil_append, bin_eql, if_true, decide_true]
    refine CallK.of (known _) ?_
    simp (maxSteps := 4000000) -implicitDefEqProofs -dsimp (disch := omega) only [↓AW_ret, ↓AOps_nil, ↓AOps_pu, on_some, extK_same, ↓then_normal, ↓Fin_ret, pval, rd_S, rd_C, put_S, resV, resL, eq_self, List.replicate_succ, List.replicate_zero, List.set_cons_zero, List.set_cons_succ, List.getElem?_cons_zero, List.getElem?_cons_succ, Option.getD_some, Nat.reduceSub, List.cons_append, List.nil_append, if_true]
    exact gc_val p14 rfl

end Go.Proofs.Ytlmbobbefgcolaa
