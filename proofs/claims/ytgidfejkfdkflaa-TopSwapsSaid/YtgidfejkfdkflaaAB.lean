/- What the law's proof rests on, part 4: for all that is said in each line. No conditions. -/
import Derived.Test.YtgidfejkfdkflaaAA
namespace Go.Proofs.Ytgidfejkfdkflaa
open Go Go.Eng
theorem nn_of {A : AHeap} {v : AV} {xs : List Int} (h : L1 A v xs) (h0 : 1 ≤ xs.length) : v ≠ .nilS := fun e => by
  subst e
  have := nil_of h
  subst this
  simp at h0
def LI (ws : List (AV × List Int)) (o : Int) (li : List Int) (A H : AHeap) (r : AV) : Prop :=
  A <+: H ∧ ((∃ y e, r = .tuple [y, I e] ∧ ¬ e = 0) ∨ ∃ (y : AV) (k : Nat) (ws' : List (AV × List Int)), r = .tuple [y, I 0] ∧ o = k ∧ k < ws.length ∧ gd (lists ws) ∧ isO li ws.length ∧ LL H y ws' ∧ lists ws' = (lists ws).set k li)
set_option maxHeartbeats 4000000 in
theorem s15 {ws : List (AV × List Int)} {v u : AV} {li : List Int} {A : AHeap} (hV : LL A v ws) (hs : Sz ws) (o : Int) (hx : L1 A u li) (hl : li.length ≤ 1000000) : ∃ r H', ACalls Try.prog 15 [v, I o, u] A r H' ∧ LI ws o li A H' r := by
  refine acallsR hmix Try.func15 (by kernel_rfl) t15 _ 3 rfl (by decide) ?_
  have hsv := hs.v
  have hll : (lists ws).length = ws.length := by simp
  dsimp only [m15]
  simp (maxSteps := 4000000) -implicitDefEqProofs -dsimp (disch := omega) only [↓AW_ops, ↓AW_seq, ↓AOps_nil, ↓AOps_pu, ↓AOps_call, on_some, ↓then_normal, pval, rd_S, rd_C, put_S, List.replicate_succ, List.replicate_zero, List.set_cons_zero, List.set_cons_succ, List.getElem?_cons_zero, List.getElem?_cons_succ, Option.getD_some, map_c, map_n, Nat.reduceSub, List.cons_append, List.nil_append]
  refine CallK.of (s8 hV hs) ?_
  by_cases hg : gd (lists ws)
  case neg =>
    have e : vE (lists ws) = 1 := if_neg hg
    simp (maxSteps := 4000000) -implicitDefEqProofs -dsimp (disch := omega) only [↓AW_ops, ↓AW_seq, ↓AW_cond, ↓AW_ret, ↓AOps_nil, ↓AOps_pu, on_some, extK_same, condB_t, ↓then_normal, ↓then_ret, ↓FinR_ret, pval, rd_S, rd_C, put_S, resV, resL, List.replicate_succ, List.replicate_zero, List.set_cons_zero, List.set_cons_succ, List.getElem?_cons_zero, List.getElem?_cons_succ, Option.getD_some, Nat.reduceSub, List.cons_append, List.nil_append, bin_neq, decide_true, not_false_eq_true, Int.reduceEq, e]
    exact ⟨_, _, gc_all, List.prefix_refl _, .inl ⟨_, _, rfl, by decide⟩⟩
  have e : vE (lists ws) = 0 := if_pos hg
  by_cases h1 : o < 0
  · simp (maxSteps := 4000000) -implicitDefEqProofs -dsimp (disch := omega) only [↓AW_skip, ↓AW_ops, ↓AW_seq, ↓AW_cond, ↓AW_ret, ↓AOps_nil, ↓AOps_pu, ↓AOps_guard, on_some, extK_same, guardB_tf, skipS_some, condB_t, condB_f, ↓then_normal, ↓then_ret, ↓FinR_ret, pval, rd_S, rd_C, put_S, resV, resL, eq_self, List.replicate_succ, List.replicate_zero, List.set_cons_zero, List.set_cons_succ, List.getElem?_cons_zero, List.getElem?_cons_succ, Option.getD_some, Nat.reduceSub, List.cons_append, List.nil_append, bin_neq, bin_lss, if_true, decide_true, decide_false, not_true_eq_false, e, h1]
    exact ⟨_, _, gc_all, List.prefix_refl _, .inl ⟨_, _, rfl, by decide⟩⟩
  by_cases h2 : o ≥ ws.length
  · have h3 : (ws.length : Int) ≤ o := h2
    simp (maxSteps := 4000000) -implicitDefEqProofs -dsimp (disch := omega) only [↓AW_skip, ↓AW_ops, ↓AW_seq, ↓AW_cond, ↓AW_ret, ↓AOps_nil, ↓AOps_pu, ↓AOps_guard, on_some, extK_same, guardB_ff, condB_t, condB_f, ↓then_normal, ↓then_ret, ↓FinR_ret, pval, rd_S, rd_C, put_S, resV, resL, eq_self, List.replicate_succ, List.replicate_zero, List.set_cons_zero, List.set_cons_succ, List.getElem?_cons_zero, List.getElem?_cons_succ, Option.getD_some, Nat.reduceSub, List.cons_append, List.nil_append, bin_neq, bin_lss, bin_geq, if_false, Bool.false_eq_true, decide_true, decide_false, not_true_eq_false, e, h1, hV.ls.len, h2]
    exact ⟨_, _, gc_all, List.prefix_refl _, .inl ⟨_, _, rfl, by decide⟩⟩
  have h3 : ¬ (ws.length : Int) ≤ o := h2
  simp (maxSteps := 4000000) -implicitDefEqProofs -dsimp (disch := omega) only [↓AW_skip, ↓AW_ops, ↓AW_seq, ↓AW_cond, ↓AOps_nil, ↓AOps_pu, ↓AOps_call, ↓AOps_guard, on_some, extK_same, guardB_ff, condB_f, ↓then_normal, pval, rd_S, rd_C, put_S, eq_self, List.replicate_succ, List.replicate_zero, List.set_cons_zero, List.set_cons_succ, List.getElem?_cons_zero, List.getElem?_cons_succ, Option.getD_some, map_c, map_n, Nat.reduceSub, List.cons_append, List.nil_append, bin_neq, bin_lss, bin_geq, if_false, Bool.false_eq_true, decide_false, not_true_eq_false, e, h1, hV.ls.len, h2]
  refine CallK.of (s23 hx hl ws.length hs.v) ?_
  by_cases h4 : isO li ws.length
  case neg =>
    simp (maxSteps := 4000000) -implicitDefEqProofs -dsimp (disch := omega) only [↓AW_ops, ↓AW_seq, ↓AW_cond, ↓AW_ret, ↓AOps_nil, ↓AOps_pu, on_some, extK_same, condB_t, ↓then_normal, ↓then_ret, ↓FinR_ret, pval, rd_S, rd_C, put_S, resV, resL, List.replicate_succ, List.replicate_zero, List.set_cons_zero, List.set_cons_succ, List.getElem?_cons_zero, List.getElem?_cons_succ, Option.getD_some, Nat.reduceSub, List.cons_append, List.nil_append, Bool.not_false, decide_false, h4]
    exact ⟨_, _, gc_all, List.prefix_refl _, .inl ⟨_, _, rfl, by decide⟩⟩
  obtain ⟨k, rfl⟩ : ∃ k : Nat, o = k := ⟨o.toNat, by omega⟩
  have hk : k < ws.length := by omega
  have hn5 := hg.1
  rw [hll] at hn5
  simp (maxSteps := 4000000) -implicitDefEqProofs -dsimp (disch := omega) only [↓AW_skip, ↓AW_ops, ↓AW_seq, ↓AW_cond, ↓AW_block, ↓AOps_nil, ↓AOps_pu, on_some, extK_same, condB_f, ↓then_normal, pval, rd_S, rd_C, put_S, ↓AW_toLoop, List.replicate_succ, List.replicate_zero, List.set_cons_zero, List.set_cons_succ, List.getElem?_cons_zero, List.getElem?_cons_succ, Option.getD_some, Nat.reduceSub, List.cons_append, List.nil_append, Bool.not_true, decide_true, h4, hV.ls.len]
  refine LoopK.by 48 (fun x : Nat × AV × AHeap × List (AV × List Int) => (x.1 ≤ ws.length ∧ x.2.2.2.length = x.1) ∧ NL A x.2.2.1 x.2.1 x.2.2.2 ∧ lists x.2.2.2 = ((lists ws).set k li).take x.1) (fun x => [(1, I k), (2, u), (9, x.2.1), (30, v), (31, I ws.length), (32, I x.1)]) (fun x => x.2.2.1) (fun x => ws.length - x.1) (0, .nilS, A, []) ⟨⟨Nat.zero_le _, rfl⟩, NL.nil (List.prefix_refl _), by simp⟩ rfl (by simp [Has, rd_s]) rfl ?_
  rintro ⟨i, y, H, ws1⟩ ⟨⟨hi, hwl⟩, hn, hw⟩
  simp only at hi hwl hn hw
  have hV1 := hV.mono hn.acc.1
  have hx1 := hx.mono hn.acc.1
  by_cases hlt : i < ws.length
  · obtain ⟨w, hz⟩ : ∃ z, ws[i]? = some z := ⟨_, List.getElem?_eq_getElem hlt⟩
    have hlt' : (i : Int) < ws.length := by omega
    have hm := List.mem_of_getElem? hz
    have hwo := hg.2 _ (mem_lists hm)
    rw [hll] at hwo
    have hA0 := hV.pos (by omega)
    have hcl : ∀ (q : AV) (xs : List Int), L1 H q xs → isO xs ws.length → ∃ r2 H3, ACalls Try.prog 32 [q] H r2 H3 ∧ ∃ v3 H4, appA 1 (H3 ++ [.cells true [r2]]) y (.sl 1 H3.length 0 1 true) = some (v3, H4) ∧ NL A H4 v3 (ws1 ++ [(r2, xs)]) ∧ r2.cells? = some [r2] := by
      intro q xs hq ho
      obtain ⟨r2, H3, hc2, n, full, hp2, hn2, rfl, hg2⟩ := c_Clone hq (nn_of hq (by have := ho.1; omega)) (by have := ho.1; omega)
      obtain ⟨v3, H4, happ, h3⟩ := (hn.mono hp2).push (.sl 1 n 0 xs.length full, xs) (.inr ⟨n, full, [], rfl, Nat.le_trans hn.acc.1.length_le hn2, hg2, nm_ne_nil hn hn2 hA0, fun y hy => (hn.lt.1 y hy).imp id (fun h => by omega)⟩) (by simp [lim]; omega)
      exact ⟨_, H3, hc2, v3, H4, happ, h3, rfl⟩
    by_cases hik : i = k
    · subst hik
      obtain ⟨r2, H3, hc2, v3, H4, happ, h3, hrc⟩ := hcl u li hx1 h4
      simp (maxSteps := 4000000) -implicitDefEqProofs -dsimp (disch := omega) only [↓AW_skip, ↓AW_ops, ↓AW_seq, ↓AW_cond, ↓AW_block, ↓AOps_nil, ↓AOps_pu, ↓AOps_ld, ↓AOps_call, on_some, condB_t, ↓then_normal, pval, lval, rd_S, put_S, partA, eq_self, mk, List.foldl_cons, List.foldl_nil, List.replicate_succ, List.replicate_zero, List.set_cons_zero, List.set_cons_succ, List.getElem?_cons_zero, List.getElem?_cons_succ, List.drop_zero, List.take_succ_cons, List.take_nil, Option.getD_some, map_c, map_n, List.length_cons, List.length_nil, Nat.reduceLeDiff, Nat.zero_add, bin_eql, bin_lss, if_true, if_false, Bool.false_eq_true, decide_true, hlt', hV1.ls.idx hlt, hV1.ls.ld0 hz 1 false (by decide), e0]
      refine CallK.of hc2 ?_
      simp (maxSteps := 4000000) -implicitDefEqProofs -dsimp (disch := omega) only [↓AW_ops, ↓AOps_nil, ↓AOps_pu, ↓AOps_ha, on_some, extK_false, extK_app, ↓then_normal, ↓inBlock_normal, pval, hval_blds, hval_app, rd_S, rd_C, put_S, splice, fillA, repl, eq_self, mk, List.foldl_cons, List.foldl_nil, List.replicate_succ, List.replicate_zero, List.set_cons_zero, List.set_cons_succ, List.getElem?_cons_zero, List.getElem?_cons_succ, List.drop_succ_cons, List.drop_nil, List.take_zero, Option.getD_some, map_c, map_n, List.length_cons, List.length_nil, Nat.reduceAdd, Nat.reduceLeDiff, Nat.zero_add, List.nil_append, List.append_nil, bin_add, w64, if_true, true_and, and_true, List.replicate_zero, repl, hrc, happ]
      refine ⟨(i + 1, v3, H4, ws1 ++ [(r2, li)]), ⟨⟨hlt, by simp [hwl]⟩, h3, ?_⟩, by simp [Has, rd_s], rfl, by simp only; omega⟩
      simp only [lists, List.map_append, List.map_cons, List.map_nil]
      rw [show List.map Prod.snd ws1 = lists ws1 from rfl, hw, List.take_add_one, List.getElem?_set_self (by simpa using hlt)]
      rfl
    · have hik' : ¬ (i : Int) = k := by omega
      obtain ⟨r2, H3, hc2, v3, H4, happ, h3, hrc⟩ := hcl w.1 w.2 (hV1.inn w hm) hwo
      simp (maxSteps := 4000000) -implicitDefEqProofs -dsimp (disch := omega) only [↓AW_skip, ↓AW_ops, ↓AW_seq, ↓AW_cond, ↓AW_block, ↓AOps_nil, ↓AOps_pu, ↓AOps_ld, ↓AOps_call, on_some, condB_t, condB_f, ↓then_normal, pval, lval, rd_S, put_S, partA, eq_self, mk, List.foldl_cons, List.foldl_nil, List.replicate_succ, List.replicate_zero, List.set_cons_zero, List.set_cons_succ, List.getElem?_cons_zero, List.getElem?_cons_succ, List.drop_zero, List.take_succ_cons, List.take_nil, Option.getD_some, map_c, map_n, List.length_cons, List.length_nil, Nat.reduceLeDiff, Nat.zero_add, bin_eql, bin_lss, if_true, if_false, Bool.false_eq_true, decide_true, decide_false, hlt', hV1.ls.idx hlt, hV1.ls.ld0 hz 1 false (by decide), e0, hik']
      refine CallK.of hc2 ?_
      simp (maxSteps := 4000000) -implicitDefEqProofs -dsimp (disch := omega) only [↓AW_ops, ↓AOps_nil, ↓AOps_pu, ↓AOps_ha, on_some, extK_false, extK_app, ↓then_normal, ↓inBlock_normal, pval, hval_blds, hval_app, rd_S, rd_C, put_S, splice, fillA, repl, eq_self, mk, List.foldl_cons, List.foldl_nil, List.replicate_succ, List.replicate_zero, List.set_cons_zero, List.set_cons_succ, List.getElem?_cons_zero, List.getElem?_cons_succ, List.drop_succ_cons, List.drop_nil, List.take_zero, Option.getD_some, map_c, map_n, List.length_cons, List.length_nil, Nat.reduceAdd, Nat.reduceLeDiff, Nat.zero_add, List.nil_append, List.append_nil, bin_add, w64, if_true, true_and, and_true, List.replicate_zero, repl, hrc, happ]
      refine ⟨(i + 1, v3, H4, ws1 ++ [(r2, w.2)]), ⟨⟨hlt, by simp [hwl]⟩, h3, ?_⟩, by simp [Has, rd_s], rfl, by simp only; omega⟩
      simp only [lists, List.map_append, List.map_cons, List.map_nil]
      rw [show List.map Prod.snd ws1 = lists ws1 from rfl, hw, List.take_add_one, List.getElem?_set_ne (fun e => hik e.symm), show (List.map Prod.snd ws)[i]? = some w.2 from ws_get hz]
      rfl
  · have hlt' : ¬ ((i : Int) < ws.length) := by omega
    rw [List.take_of_length_le (by simp; omega)] at hw
    simp (maxSteps := 4000000) -implicitDefEqProofs -dsimp (disch := omega) only [↓AW_ops, ↓AW_seq, ↓AW_cond, ↓AW_exit, ↓AW_ret, ↓AOps_nil, ↓AOps_pu, on_some, condB_f, ↓then_normal, ↓then_exit, ↓inBlock_exit, ↓FinR_ret, pval, rd_S, rd_C, put_S, resV, resL, eq_self, mk, List.foldl_cons, List.foldl_nil, List.replicate_succ, List.replicate_zero, List.set_cons_zero, List.set_cons_succ, List.getElem?_cons_zero, List.getElem?_cons_succ, Option.getD_some, bin_lss, if_true, decide_false, hlt']
    exact ⟨_, _, gc_all, hn.acc.1, .inr ⟨y, k, ws1, rfl, rfl, hk, hg, h4, hn.ll, hw⟩⟩
end Go.Proofs.Ytgidfejkfdkflaa

namespace Go.Proofs.Ytgidfejkfdkflaa
theorem sub_len {α : Type} [DecidableEq α] : ∀ (l1 l2 : List α), l1.Nodup → (∀ x ∈ l1, x ∈ l2) → l1.length ≤ l2.length
  | [], _, _, _ => Nat.zero_le _
  | a :: l, l2, h, hs => by
    have ha := hs a (by simp)
    obtain ⟨h1, h2⟩ := List.nodup_cons.1 h
    have := sub_len l (l2.erase a) h2 (fun x hx => (List.mem_erase_of_ne (fun e => h1 (by rw [← e]; exact hx))).2 (hs x (by simp [hx])))
    rw [List.length_erase_of_mem ha] at this
    have := List.length_pos_of_mem ha
    simp only [List.length_cons]
    omega
theorem map_nodup {α β : Type} {f : α → β} : ∀ {l : List α}, l.Nodup → (∀ x ∈ l, ∀ y ∈ l, f x = f y → x = y) → (l.map f).Nodup
  | [], _, _ => List.nodup_nil
  | a :: l, h, hi => by
    obtain ⟨h1, h2⟩ := List.nodup_cons.1 h
    rw [List.map_cons, List.nodup_cons]
    refine ⟨fun hm => ?_, map_nodup h2 (fun x hx y hy => hi x (by simp [hx]) y (by simp [hy]))⟩
    obtain ⟨x, hx, e⟩ := List.mem_map.1 hm
    have := hi x (by simp [hx]) a (by simp) e
    exact h1 (this ▸ hx)
/-- A map of a finite set into itself that keeps elements apart is onto. -/
theorem inj_onto {α : Type} [DecidableEq α] {f : α → α} {l : List α} (hn : l.Nodup) (hm : ∀ x ∈ l, f x ∈ l) (hi : ∀ x ∈ l, ∀ y ∈ l, f x = f y → x = y) {y : α} (hy : y ∈ l) : ∃ x ∈ l, f x = y := by
  rcases Classical.em (∃ x ∈ l, f x = y) with h | h
  · exact h
  exfalso
  have h1 := sub_len (l.map f) (l.erase y) (map_nodup hn hi) (fun z hz => by
    obtain ⟨x, hx, rfl⟩ := List.mem_map.1 hz
    exact (List.mem_erase_of_ne (fun e => h ⟨x, hx, e⟩)).2 (hm x hx))
  rw [List.length_map, List.length_erase_of_mem hy] at h1
  have := List.length_pos_of_mem hy
  omega
/-- Deals, and the stages at which they are made. -/
structure TTC (n : Nat) (r : Nat → Nat → Nat) (own t : Nat → Nat) : Prop where
  lt : ∀ i, i < n → own i < n
  inj : ∀ i j, i < n → j < n → own i = own j → i = j
  st : ∀ i, i < n → t (own i) = t i
  best : ∀ i p, i < n → p < n → t i ≤ t p → r i (own i) ≤ r i p
def RI (n : Nat) (r : Nat → Nat → Nat) : Prop := ∀ i p q, i < n → p < n → q < n → r i p = r i q → p = q
section
variable {n : Nat} {r : Nat → Nat → Nat} {own t : Nat → Nat}
/-- Within a set of a stage that own keeps, all come up. -/
theorem TTC.onto (h : TTC n r own t) {S : List Nat} (hS : S.Nodup) (hlt : ∀ i ∈ S, i < n) {s : Nat} (hc : ∀ i ∈ S, t i = s → own i ∈ S) {p : Nat} (hp : p ∈ S) (ht : t p = s) : ∃ q ∈ S, t q = s ∧ own q = p := by
  have hm : ∀ x ∈ S.filter (fun i => decide (t i = s)), own x ∈ S.filter (fun i => decide (t i = s)) := fun x hx => by
    simp only [List.mem_filter, decide_eq_true_eq] at hx ⊢
    exact ⟨hc x hx.1 hx.2, by rw [h.st x (hlt x hx.1)]; exact hx.2⟩
  obtain ⟨q, hq, e⟩ := inj_onto (f := own) (hS.filter _) hm (fun x hx y hy => h.inj x y (hlt x (List.mem_filter.1 hx).1) (hlt y (List.mem_filter.1 hy).1)) (y := p) (by simp [hp, ht])
  simp only [List.mem_filter, decide_eq_true_eq] at hq
  exact ⟨q, hq.1, hq.2, e⟩
/-- No group can do as well without getting the same. -/
theorem TTC.core (h : TTC n r own t) (hr : RI n r) {S : List Nat} (hS : S.Nodup) (hlt : ∀ i ∈ S, i < n) {g : Nat → Nat} (hm : ∀ i ∈ S, g i ∈ S) (hi : ∀ i ∈ S, ∀ j ∈ S, g i = g j → i = j) (hle : ∀ i ∈ S, r i (g i) ≤ r i (own i)) : ∀ s, ∀ i ∈ S, t i = s → g i = own i := by
  intro s
  induction s using Nat.strongRecOn with
  | ind s ih =>
    intro i hiS hti
    have hgn := hlt _ (hm i hiS)
    rcases Nat.lt_or_ge (t (g i)) s with hlt2 | hge
    · exfalso
      obtain ⟨q, hqS, hqt, hqo⟩ := h.onto hS hlt (s := t (g i)) (fun j hj hjt => by
        rw [← ih (t (g i)) hlt2 j hj hjt]
        exact hm j hj) (hm i hiS) rfl
      have := ih (t (g i)) hlt2 q hqS hqt
      rw [hqo] at this
      have hqi := hi q hqS i hiS this
      subst hqi
      omega
    · have h1 := h.best i (g i) (hlt i hiS) hgn (by omega)
      have h2 := hle i hiS
      exact hr i _ _ (hlt i hiS) hgn (h.lt i (hlt i hiS)) (by omega)
/-- What lies at earlier stages is taken by those of earlier stages. -/
theorem TTC.later (h : TTC n r own t) {d : Nat → Nat} (hd : ∀ i, i < n → d i < n) (hdi : ∀ i j, i < n → j < n → d i = d j → i = j) {s : Nat} (he : ∀ j, j < n → t j < s → d j = own j) {i : Nat} (hi : i < n) (hs : s ≤ t i) : s ≤ t (d i) := by
  rcases Nat.lt_or_ge (t (d i)) s with h1 | h1
  · exfalso
    obtain ⟨q, hq, hqt, hqo⟩ := h.onto (S := List.range n) List.nodup_range (fun i hi => List.mem_range.1 hi) (s := t (d i)) (fun j hj _ => List.mem_range.2 (h.lt j (List.mem_range.1 hj))) (List.mem_range.2 (hd i hi)) rfl
    have hqn := List.mem_range.1 hq
    have := hdi q i hqn hi (by rw [he q hqn (by omega), hqo])
    subst this
    omega
  · exact h1
/-- Any other deal is blocked: by the owners of a stage. -/
theorem TTC.other (h : TTC n r own t) (hr : RI n r) {d : Nat → Nat} (hd : ∀ i, i < n → d i < n) (hdi : ∀ i j, i < n → j < n → d i = d j → i = j) {s : Nat} (he : ∀ j, j < n → t j < s → d j = own j) :
    (∀ i, i < n → t i = s → r i (own i) ≤ r i (d i)) ∧ ∀ i, i < n → t i = s → d i ≠ own i → r i (own i) < r i (d i) := by
  have h1 : ∀ i, i < n → t i = s → r i (own i) ≤ r i (d i) := fun i hi ht => h.best i (d i) hi (hd i hi) (by rw [ht]; exact h.later hd hdi he hi (by omega))
  refine ⟨h1, fun i hi ht hne => ?_⟩
  rcases Nat.lt_or_ge (r i (own i)) (r i (d i)) with h2 | h2
  · exact h2
  · exact absurd (hr i _ _ hi (hd i hi) (h.lt i hi) (Nat.le_antisymm h2 (h1 i hi ht))) hne
/-- The first stage with a difference. -/
theorem first_diff {d own t : Nat → Nat} {n : Nat} (hne : ∃ i, i < n ∧ d i ≠ own i) : ∃ s, (∀ j, j < n → t j < s → d j = own j) ∧ ∃ i, i < n ∧ t i = s ∧ d i ≠ own i := by
  have key : ∀ k, (∃ i, i < n ∧ d i ≠ own i ∧ t i = k) → ∃ s, (∀ j, j < n → t j < s → d j = own j) ∧ ∃ i, i < n ∧ t i = s ∧ d i ≠ own i := by
    intro k
    induction k using Nat.strongRecOn with
    | ind k ih =>
      rintro ⟨i, hi, h1, h2⟩
      rcases Classical.em (∃ j, j < n ∧ t j < k ∧ d j ≠ own j) with ⟨j, hj, hjt, hjd⟩ | h3
      · exact ih (t j) hjt ⟨j, hj, hjd, rfl⟩
      · exact ⟨k, fun j hj hjt => Classical.byContradiction fun h4 => h3 ⟨j, hj, hjt, h4⟩, i, hi, h2, h1⟩
  obtain ⟨i, hi, h1⟩ := hne
  exact key _ ⟨i, hi, h1, rfl⟩
/-- Nobody gains by a lie. -/
theorem no_lie {r' : Nat → Nat → Nat} {own' t' : Nat → Nat} (h : TTC n r own t) (h' : TTC n r' own' t') (hr : RI n r) (hr' : RI n r') {x : Nat} (hx : x < n) (hsame : ∀ i, i < n → i ≠ x → r' i = r i) : r x (own x) ≤ r x (own' x) := by
  have he : ∀ j, j < n → t j < t x → own' j = own j := by
    intro j hj hjt
    rcases Classical.em (own' j = own j) with h1 | h1
    · exact h1
    exfalso
    obtain ⟨s, he, i, hi, hti, hid⟩ := first_diff (d := own') (own := own) (t := fun i => if t i < t x then t i else n + t x + t i + 1) (n := n) ⟨j, hj, h1⟩
    have hsx : s < t x := by
      rcases Nat.lt_or_ge s (t x) with h2 | h2
      · exact h2
      · exfalso
        exact h1 (he j hj (by rw [if_pos hjt]; omega))
    have hti' : t i = s := by
      split at hti
      · exact hti
      · omega
    have he' : ∀ j, j < n → t j < s → own' j = own j := fun j hj hjs => he j hj (by rw [if_pos (by omega)]; exact hjs)
    obtain ⟨o1, o2⟩ := h.other hr h'.lt h'.inj he'
    have hmem : ∀ k, k ∈ (List.range n).filter (fun i => decide (t i = s)) ↔ k < n ∧ t k = s := fun k => by simp
    have := h'.core hr' (S := (List.range n).filter (fun i => decide (t i = s))) (List.nodup_range.filter _) (fun k hk => ((hmem k).1 hk).1) (g := own) (fun k hk => by
      obtain ⟨a, b⟩ := (hmem k).1 hk
      exact (hmem _).2 ⟨h.lt k a, by rw [h.st k a]; exact b⟩) (fun k hk l hl => h.inj k l ((hmem k).1 hk).1 ((hmem l).1 hl).1) (fun k hk => by
      obtain ⟨a, b⟩ := (hmem k).1 hk
      rw [hsame k a (fun e => by subst e; omega)]
      exact o1 k a b) (t' i) i ((hmem i).2 ⟨hi, hti'⟩) rfl
    exact hid this.symm
  exact h.best x _ hx (h'.lt x hx) (h.later h'.lt h'.inj he hx (Nat.le_refl _))
end
/-- Where a map stays within a finite set, it turns some of it. -/
theorem cyc_ex {f : Nat → Nat} : ∀ (m : Nat) (C : List Nat), C.length = m → C.Nodup → C ≠ [] → (∀ x ∈ C, f x ∈ C) → ∃ D : List Nat, D.Nodup ∧ D ≠ [] ∧ (∀ x ∈ D, x ∈ C) ∧ (∀ x ∈ D, f x ∈ D) ∧ ∀ x ∈ D, ∀ y ∈ D, f x = f y → x = y := by
  intro m
  induction m using Nat.strongRecOn with
  | ind m ih =>
    intro C hm hn h0 hc
    rcases Classical.em (∀ x ∈ C, ∀ y ∈ C, f x = f y → x = y) with h | h
    · exact ⟨C, hn, h0, fun x hx => hx, hc, h⟩
    have hex : ∃ x ∈ C, ∃ y ∈ C, f x = f y ∧ x ≠ y := by
      rcases Classical.em (∃ x ∈ C, ∃ y ∈ C, f x = f y ∧ x ≠ y) with h1 | h1
      · exact h1
      · exact absurd (fun x hx y hy e => Classical.byContradiction fun h2 => h1 ⟨x, hx, y, hy, e, h2⟩) h
    obtain ⟨x, hx, y, hy, e, hxy⟩ := hex
    have hmem : ∀ z, z ∈ C.filter (fun z => decide (z ∈ C.map f)) ↔ z ∈ C ∧ ∃ w ∈ C, f w = z := fun z => by simp
    have hlen : (C.filter (fun z => decide (z ∈ C.map f))).length < m := by
      have hsub : (C.filter (fun z => decide (z ∈ C.map f))).length ≤ ((C.erase y).map f).length := sub_len _ _ (hn.filter _) (fun z hz => by
        obtain ⟨_, w, hw, rfl⟩ := (hmem z).1 hz
        by_cases hwy : w = y
        · subst hwy
          rw [← e]
          exact List.mem_map_of_mem ((List.mem_erase_of_ne hxy).2 hx)
        · exact List.mem_map_of_mem ((List.mem_erase_of_ne hwy).2 hw))
      rw [List.length_map, List.length_erase_of_mem hy] at hsub
      have := List.length_pos_of_mem hy
      omega
    obtain ⟨D, d1, d2, d3, d4, d5⟩ := ih _ hlen (C.filter (fun z => decide (z ∈ C.map f))) rfl (hn.filter _) (fun e0 => by
      have : f x ∈ C.filter (fun z => decide (z ∈ C.map f)) := (hmem _).2 ⟨hc x hx, x, hx, rfl⟩
      rw [e0] at this
      cases this) (fun z hz => by
        obtain ⟨h1, _⟩ := (hmem z).1 hz
        exact (hmem _).2 ⟨hc z h1, z, h1, rfl⟩)
    exact ⟨D, d1, d2, fun z hz => ((hmem z).1 (d3 z hz)).1, d4, d5⟩
end Go.Proofs.Ytgidfejkfdkflaa

namespace Go.Proofs.Ytgidfejkfdkflaa
section
variable {n : Nat} {r : Nat → Nat → Nat} {d : Nat → Nat}
/-- No deal is as good for all, and better for one. -/
def NoImp (n : Nat) (r : Nat → Nat → Nat) (d : Nat → Nat) : Prop := ∀ g : Nat → Nat, (∀ i, i < n → g i < n) → (∀ i j, i < n → j < n → g i = g j → i = j) → (∀ i, i < n → r i (g i) ≤ r i (d i)) → ∀ i, i < n → ¬ r i (g i) < r i (d i)
theorem best_ex (hd : ∀ i, i < n → d i < n) (hi : ∀ i j, i < n → j < n → d i = d j → i = j) (hno : NoImp n r d) {R : List Nat} (hR : R.Nodup) (h0 : R ≠ []) (hlt : ∀ i ∈ R, i < n) : ∃ i ∈ R, ∀ j ∈ R, r i (d i) ≤ r i (d j) := by
  rcases Classical.em (∃ i ∈ R, ∀ j ∈ R, r i (d i) ≤ r i (d j)) with h | h
  · exact h
  exfalso
  have hf : ∀ i, ∃ j, i ∈ R → j ∈ R ∧ r i (d j) < r i (d i) := fun i => by
    rcases Classical.em (∃ j ∈ R, r i (d j) < r i (d i)) with ⟨j, h1, h2⟩ | h1
    · exact ⟨j, fun _ => ⟨h1, h2⟩⟩
    · refine ⟨0, fun hiR => absurd ⟨i, hiR, fun j hj => ?_⟩ h⟩
      rcases Nat.lt_or_ge (r i (d j)) (r i (d i)) with h2 | h2
      · exact absurd ⟨j, hj, h2⟩ h1
      · exact h2
  obtain ⟨f, hf⟩ := Classical.axiomOfChoice hf
  obtain ⟨D, d1, d2, d3, d4, d5⟩ := cyc_ex (f := f) R.length R rfl hR h0 (fun x hx => (hf x hx).1)
  obtain ⟨x, hx⟩ := List.exists_mem_of_ne_nil D d2
  have hDn : ∀ y ∈ D, y < n := fun y hy => hlt y (d3 y hy)
  refine hno (fun i => if i ∈ D then d (f i) else d i) (fun i hin => ?_) (fun i j hin hjn e => ?_) (fun i hin => ?_) x (hDn x hx) ?_
  · by_cases h1 : i ∈ D
    · simp only [if_pos h1]; exact hd _ (hDn _ (d4 i h1))
    · simp only [if_neg h1]; exact hd i hin
  · by_cases h1 : i ∈ D <;> by_cases h2 : j ∈ D
    · simp only [if_pos h1, if_pos h2] at e
      exact d5 i h1 j h2 (hi _ _ (hDn _ (d4 i h1)) (hDn _ (d4 j h2)) e)
    · simp only [if_pos h1, if_neg h2] at e
      have := hi _ _ (hDn _ (d4 i h1)) hjn e
      exact absurd (this ▸ d4 i h1) h2
    · simp only [if_neg h1, if_pos h2] at e
      have := hi _ _ hin (hDn _ (d4 j h2)) e
      exact absurd (this ▸ d4 j h2) h1
    · simp only [if_neg h1, if_neg h2] at e
      exact hi _ _ hin hjn e
  · by_cases h1 : i ∈ D
    · simp only [if_pos h1]; exact Nat.le_of_lt (hf i (d3 i h1)).2
    · simp only [if_neg h1]; exact Nat.le_refl _
  · simp only [if_pos hx]
    exact (hf x (d3 x hx)).2
/-- An order in which each one has the best of what is left. -/
theorem order_ex (hd : ∀ i, i < n → d i < n) (hi : ∀ i j, i < n → j < n → d i = d j → i = j) (hno : NoImp n r d) : ∀ (m : Nat) (R : List Nat), R.length = m → R.Nodup → (∀ i ∈ R, i < n) → ∃ o : List Nat, o.Perm R ∧ o.Pairwise (fun i j => r i (d i) ≤ r i (d j))
  | 0, R, hm, _, _ => by
    have : R = [] := List.eq_nil_of_length_eq_zero hm
    subst this
    exact ⟨[], List.Perm.refl _, List.Pairwise.nil⟩
  | m + 1, R, hm, hR, hlt => by
    have h0 : R ≠ [] := fun e => by rw [e] at hm; simp at hm
    obtain ⟨i, hiR, hb⟩ := best_ex hd hi hno hR h0 hlt
    obtain ⟨o, o1, o2⟩ := order_ex hd hi hno m (R.erase i) (by rw [List.length_erase_of_mem hiR]; omega) (hR.erase i) (fun j hj => hlt j (List.mem_of_mem_erase hj))
    refine ⟨i :: o, (List.Perm.cons i o1).trans (List.perm_cons_erase hiR).symm, List.pairwise_cons.2 ⟨fun j hj => hb j (List.mem_of_mem_erase (o1.mem_iff.1 hj)), o2⟩⟩
end
/-- Each one points to the next. -/
def Lnk (f : Nat → Nat) (c : List Nat) : Prop := ∀ k a b, c[k]? = some a → c[k + 1]? = some b → f a = b
theorem Lnk.push {f : Nat → Nat} {c : List Nat} (h : Lnk f c) {x : Nat} (hx : c.getLast? = some x) : Lnk f (c ++ [f x]) := by
  intro k a b ha hb
  rw [List.getLast?_eq_getElem?] at hx
  have hbl := (List.getElem?_eq_some_iff.1 hb).1
  simp only [List.length_append, List.length_cons, List.length_nil] at hbl
  rw [List.getElem?_append_left (by omega)] at ha
  rcases Nat.lt_or_ge (k + 1) c.length with h1 | h1
  · rw [List.getElem?_append_left h1] at hb
    exact h k a b ha hb
  · have e : k = c.length - 1 := by omega
    rw [List.getElem?_append_right h1, show k + 1 - c.length = 0 by omega] at hb
    subst e
    rw [hx] at ha
    simp at hb
    rw [← Option.some.inj ha]
    exact hb
/-- What a path is. -/
structure Pth (f : Nat → Nat) (i : Nat) (c : List Nat) : Prop where
  nd : c.Nodup
  h0 : c[0]? = some i
  lk : Lnk f c
theorem Pth.ne {f : Nat → Nat} {i : Nat} {c : List Nat} (h : Pth f i c) : c ≠ [] := fun e => by have := h.h0; rw [e] at this; simp at this
theorem Pth.push {f : Nat → Nat} {i : Nat} {c : List Nat} (h : Pth f i c) {x : Nat} (hx : c.getLast? = some x) (hn : f x ∉ c) : Pth f i (c ++ [f x]) := by
  refine ⟨?_, ?_, h.lk.push hx⟩
  · rw [List.nodup_append]
    exact ⟨h.nd, by simp, fun a ha b hb => by simp at hb; subst hb; exact fun e => hn (e ▸ ha)⟩
  · have hl : 0 < c.length := List.length_pos_iff.2 h.ne
    rw [List.getElem?_append_left hl]
    exact h.h0
/-- A closed set that holds the first one holds all. -/
theorem Pth.mem {f : Nat → Nat} {i : Nat} {c : List Nat} (h : Pth f i c) {S : Nat → Prop} (hi : S i) (hS : ∀ x, S x → S (f x)) : ∀ x ∈ c, S x := by
  have key : ∀ (k a : Nat), c[k]? = some a → S a := by
    intro k
    induction k with
    | zero => intro a ha; rw [h.h0] at ha; rw [← Option.some.inj ha]; exact hi
    | succ k ih =>
      intro b hb
      have hk : k < c.length := by have := (List.getElem?_eq_some_iff.1 hb).1; omega
      have := h.lk k c[k] b (List.getElem?_eq_getElem hk) hb
      rw [← this]
      exact hS _ (ih _ (List.getElem?_eq_getElem hk))
  intro x hx
  obtain ⟨k, hk⟩ := List.mem_iff_getElem?.1 hx
  exact key k x hk
/-- If the last one points to the first, the path is a cycle: it is closed, and each one in it is pointed to. -/
theorem Pth.closed {f : Nat → Nat} {i : Nat} {c : List Nat} (h : Pth f i c) {x : Nat} (hx : c.getLast? = some x) (hc : f x = i) : ∀ y ∈ c, f y ∈ c := by
  intro y hy
  obtain ⟨k, hk⟩ := List.mem_iff_getElem?.1 hy
  have hkl := (List.getElem?_eq_some_iff.1 hk).1
  rcases Nat.lt_or_ge (k + 1) c.length with h1 | h1
  · have := h.lk k y c[k + 1] hk (List.getElem?_eq_getElem h1)
    rw [this]
    exact List.getElem_mem h1
  · rw [List.getLast?_eq_getElem?, show c.length - 1 = k by omega, hk] at hx
    rw [Option.some.inj hx, hc]
    exact List.mem_of_getElem? h.h0
/-- The next one in a cycle. -/
theorem Pth.next {f : Nat → Nat} {i : Nat} {c : List Nat} (h : Pth f i c) {x : Nat} (hx : c.getLast? = some x) (hc : f x = i) {k y : Nat} (hk : c[k]? = some y) : c[(k + 1) % c.length]? = some (f y) := by
  have hkl := (List.getElem?_eq_some_iff.1 hk).1
  rcases Nat.lt_or_ge (k + 1) c.length with h1 | h1
  · rw [Nat.mod_eq_of_lt h1]
    have := h.lk k y c[k + 1] hk (List.getElem?_eq_getElem h1)
    rw [this]
    exact List.getElem?_eq_getElem h1
  · rw [show k + 1 = c.length by omega, Nat.mod_self, h.h0]
    rw [List.getLast?_eq_getElem?, show c.length - 1 = k by omega, hk] at hx
    rw [Option.some.inj hx, hc]
/-- In a cycle, what is pointed to differs. -/
theorem Pth.inj {f : Nat → Nat} {i : Nat} {c : List Nat} (h : Pth f i c) {x : Nat} (hx : c.getLast? = some x) (hc : f x = i) : ∀ a ∈ c, ∀ b ∈ c, f a = f b → a = b := by
  intro a ha b hb e
  obtain ⟨k, hk⟩ := List.mem_iff_getElem?.1 ha
  obtain ⟨l, hl⟩ := List.mem_iff_getElem?.1 hb
  have hkl := (List.getElem?_eq_some_iff.1 hk).1
  have hll := (List.getElem?_eq_some_iff.1 hl).1
  have h1 := h.next hx hc hk
  have h2 := h.next hx hc hl
  rw [← e] at h2
  have hpos : 0 < c.length := by omega
  have m1 := Nat.mod_lt (k + 1) hpos
  have m2 := Nat.mod_lt (l + 1) hpos
  have g1 := (List.getElem?_eq_some_iff.1 h1).2
  have g2 := (List.getElem?_eq_some_iff.1 h2).2
  have hmm : (k + 1) % c.length = (l + 1) % c.length := by
    have hp := List.pairwise_iff_getElem.1 h.nd
    rcases Nat.lt_trichotomy ((k + 1) % c.length) ((l + 1) % c.length) with h3 | h3 | h3
    · exact absurd (g1.trans g2.symm) (hp _ _ m1 m2 h3)
    · exact h3
    · exact absurd (g2.trans g1.symm) (hp _ _ m2 m1 h3)
  have hkl2 : k = l := by
    rcases Nat.lt_or_ge (k + 1) c.length with a1 | a1 <;> rcases Nat.lt_or_ge (l + 1) c.length with a2 | a2
    · rw [Nat.mod_eq_of_lt a1, Nat.mod_eq_of_lt a2] at hmm; omega
    · rw [Nat.mod_eq_of_lt a1, show l + 1 = c.length by omega, Nat.mod_self] at hmm; omega
    · rw [Nat.mod_eq_of_lt a2, show k + 1 = c.length by omega, Nat.mod_self] at hmm; omega
    · omega
  subst hkl2
  rw [hk] at hl
  exact Option.some.inj hl
/-- The path from one that the map turns comes back to it. -/
theorem Pth.back {f : Nat → Nat} {i : Nat} {c : List Nat} (h : Pth f i c) {D : Nat → Prop} (hi : D i) (hD : ∀ x, D x → D (f x)) (hinj : ∀ x y, D x → D y → f x = f y → x = y) {x : Nat} (hx : c.getLast? = some x) (hrep : f x ∈ c) : f x = i := by
  have hm := h.mem hi hD
  obtain ⟨k, hk⟩ := List.mem_iff_getElem?.1 hrep
  rw [List.getLast?_eq_getElem?] at hx
  cases k with
  | zero => rw [h.h0] at hk; exact (Option.some.inj hk).symm
  | succ k =>
    exfalso
    have hkl : k < c.length := by have := (List.getElem?_eq_some_iff.1 hk).1; omega
    have h1 := h.lk k c[k] (f x) (List.getElem?_eq_getElem hkl) hk
    have h2 := hinj _ _ (hm _ (List.getElem_mem hkl)) (hm x (List.mem_of_getElem? hx)) h1
    have h3 := (List.getElem?_eq_some_iff.1 hx).2
    have h4 := (List.getElem?_eq_some_iff.1 hx).1
    have h5 := (List.getElem?_eq_some_iff.1 hk).1
    have hp := List.pairwise_iff_getElem.1 h.nd
    exact hp k (c.length - 1) hkl h4 (by omega) (h2.trans h3.symm)
end Go.Proofs.Ytgidfejkfdkflaa

namespace Go.Proofs.Ytgidfejkfdkflaa
/-- What some rounds have dealt. -/
structure TS (n : Nat) (r : Nat → Nat → Nat) (left : Nat → Bool) (own t : Nat → Nat) (s : Nat) : Prop where
  asg : ∀ i, i < n → left i = false → own i < n ∧ left (own i) = false ∧ t (own i) = t i ∧ t i < s
  inj : ∀ i j, i < n → j < n → left i = false → left j = false → own i = own j → i = j
  best : ∀ i p, i < n → p < n → left i = false → (left p = true ∨ t i ≤ t p) → r i (own i) ≤ r i p
theorem TS.start (n : Nat) (r : Nat → Nat → Nat) (own t : Nat → Nat) : TS n r (fun _ => true) own t 0 :=
  ⟨(fun _ _ h => by cases h), (fun _ _ _ _ h => by cases h), (fun _ _ _ _ h => by cases h)⟩
theorem TS.congr {n : Nat} {r : Nat → Nat → Nat} {left left' : Nat → Bool} {own own' t : Nat → Nat} {s : Nat} (h : TS n r left own t s) (hl : ∀ i, i < n → left' i = left i) (ho : ∀ i, i < n → left i = false → own' i = own i) : TS n r left' own' t s := by
  refine ⟨fun i hi h1 => ?_, fun i j hi hj h1 h2 e => ?_, fun i p hi hp h1 h2 => ?_⟩
  · rw [hl i hi] at h1
    obtain ⟨a, b, c, d⟩ := h.asg i hi h1
    rw [ho i hi h1]
    exact ⟨a, by rw [hl _ a]; exact b, c, d⟩
  · rw [hl i hi] at h1
    rw [hl j hj] at h2
    rw [ho i hi h1, ho j hj h2] at e
    exact h.inj i j hi hj h1 h2 e
  · rw [hl i hi] at h1
    rw [hl p hp] at h2
    rw [ho i hi h1]
    exact h.best i p hi hp h1 h2
/-- A round: those of X trade by f, each gets the best of what is left. -/
theorem TS.step {n : Nat} {r : Nat → Nat → Nat} {left : Nat → Bool} {own t : Nat → Nat} {s : Nat} (h : TS n r left own t s) {X : List Nat} {f : Nat → Nat} (hX : ∀ i ∈ X, i < n ∧ left i = true) (hc : ∀ i ∈ X, f i ∈ X) (hi : ∀ i ∈ X, ∀ j ∈ X, f i = f j → i = j)
    (hb : ∀ i ∈ X, ∀ p, p < n → left p = true → r i (f i) ≤ r i p) : TS n r (fun i => left i && !decide (i ∈ X)) (fun i => if i ∈ X then f i else own i) (fun i => if i ∈ X then s else t i) (s + 1) := by
  have hl : ∀ i, (left i && !decide (i ∈ X)) = false → i ∈ X ∨ (i ∉ X ∧ left i = false) := fun i h1 => by
    by_cases h2 : i ∈ X
    · exact .inl h2
    · simp [h2] at h1; exact .inr ⟨h2, h1⟩
  have hno : ∀ i, i < n → left i = false → i ∉ X := fun i _ h1 h2 => by rw [(hX i h2).2] at h1; cases h1
  refine ⟨fun i hin h1 => ?_, fun i j hin hjn h1 h2 e => ?_, fun i p hin hpn h1 h2 => ?_⟩
  · rcases hl i h1 with h2 | ⟨h2, h3⟩
    · have h4 := hc i h2
      simp only [if_pos h2, if_pos h4]
      exact ⟨(hX _ h4).1, by simp [h4], trivial, Nat.lt_succ_self _⟩
    · obtain ⟨a, b, c, d⟩ := h.asg i hin h3
      have h4 := hno _ a b
      simp only [if_neg h2, if_neg h4]
      exact ⟨a, by simp [b], c, by omega⟩
  · rcases hl i h1 with h3 | ⟨h3, h4⟩ <;> rcases hl j h2 with h5 | ⟨h5, h6⟩
    · simp only [if_pos h3, if_pos h5] at e
      exact hi i h3 j h5 e
    · simp only [if_pos h3, if_neg h5] at e
      exfalso
      have := (h.asg j hjn h6).2.1
      rw [← e, (hX _ (hc i h3)).2] at this
      cases this
    · simp only [if_neg h3, if_pos h5] at e
      exfalso
      have := (h.asg i hin h4).2.1
      rw [e, (hX _ (hc j h5)).2] at this
      cases this
    · simp only [if_neg h3, if_neg h5] at e
      exact h.inj i j hin hjn h4 h6 e
  · rcases hl i h1 with h3 | ⟨h3, h4⟩
    · simp only [if_pos h3] at h2 ⊢
      refine hb i h3 p hpn ?_
      rcases h2 with h2 | h2
      · simp at h2; exact h2.1
      · by_cases h5 : p ∈ X
        · exact (hX p h5).2
        · rw [if_neg h5] at h2
          rcases hlp : left p with _ | _
          · have := (h.asg p hpn hlp).2.2.2
            omega
          · rfl
    · simp only [if_neg h3] at h2 ⊢
      refine h.best i p hin hpn h4 ?_
      rcases h2 with h2 | h2
      · simp at h2; exact .inl h2.1
      · by_cases h5 : p ∈ X
        · exact .inl (hX p h5).2
        · rw [if_neg h5] at h2; exact .inr h2
theorem TS.done {n : Nat} {r : Nat → Nat → Nat} {left : Nat → Bool} {own t : Nat → Nat} {s : Nat} (h : TS n r left own t s) (hl : ∀ i, i < n → left i = false) : TTC n r own t :=
  ⟨fun i hi => (h.asg i hi (hl i hi)).1, fun i j hi hj => h.inj i j hi hj (hl i hi) (hl j hj), fun i hi => (h.asg i hi (hl i hi)).2.2.1, fun i p hi hp ht => h.best i p hi hp (hl i hi) (.inr ht)⟩
/-- A cycle of f among those that are left. -/
def Cyc (n : Nat) (left : Nat → Bool) (f : Nat → Nat) (c : List Nat) : Prop := ∃ i x, Pth f i c ∧ c.getLast? = some x ∧ f x = i ∧ ∀ y ∈ c, y < n ∧ left y = true
structure Cs (n : Nat) (left : Nat → Bool) (f : Nat → Nat) (cs : List (List Nat)) : Prop where
  cyc : ∀ c ∈ cs, Cyc n left f c
  dis : cs.Pairwise (fun c d => ∀ x ∈ c, x ∉ d)
theorem Cs.nil (n : Nat) (left : Nat → Bool) (f : Nat → Nat) : Cs n left f [] := ⟨by simp, List.Pairwise.nil⟩
/-- One that is in no cycle so far begins a new one. -/
theorem Cs.push {n : Nat} {left : Nat → Bool} {f : Nat → Nat} {cs : List (List Nat)} (h : Cs n left f cs) {i : Nat} (hno : ∀ c ∈ cs, i ∉ c) {c : List Nat} (hp : Pth f i c) {x : Nat} (hx : c.getLast? = some x) (hc : f x = i) (hin : ∀ y ∈ c, y < n ∧ left y = true) : Cs n left f (cs ++ [c]) := by
  refine ⟨fun d hd => ?_, ?_⟩
  · rcases List.mem_append.1 hd with h1 | h1
    · exact h.cyc d h1
    · have : d = c := by simpa using h1
      subst this
      exact ⟨i, x, hp, hx, hc, hin⟩
  · rw [List.pairwise_append]
    refine ⟨h.dis, by simp, fun d hd e he y hy hyc => ?_⟩
    have : e = c := by simpa using he
    subst this
    obtain ⟨j, z, k1, k2, k3, k4⟩ := h.cyc d hd
    -- from y on all lies in d; and i comes up again
    obtain ⟨k, hk⟩ := List.mem_iff_getElem?.1 hyc
    have key : ∀ (m a : Nat), e[k + m]? = some a → a ∈ d := by
      intro m
      induction m with
      | zero => intro a ha; rw [Nat.add_zero, hk] at ha; rw [← Option.some.inj ha]; exact hy
      | succ m ih =>
        intro b hb
        have hkl : k + m < e.length := by have := (List.getElem?_eq_some_iff.1 hb).1; omega
        have h1 := hp.lk (k + m) e[k + m] b (List.getElem?_eq_getElem hkl) hb
        rw [← h1]
        exact k1.closed k2 k3 _ (ih _ (List.getElem?_eq_getElem hkl))
    have hkl := (List.getElem?_eq_some_iff.1 hk).1
    rw [List.getLast?_eq_getElem?] at hx
    have hxd : x ∈ d := key (e.length - 1 - k) x (by rw [show k + (e.length - 1 - k) = e.length - 1 by omega]; exact hx)
    have := k1.closed k2 k3 x hxd
    rw [hc] at this
    exact hno d hd this
/-- All who trade in a round. -/
def allX (cs : List (List Nat)) : List Nat := cs.flatten
theorem Cs.facts {n : Nat} {left : Nat → Bool} {f : Nat → Nat} {cs : List (List Nat)} (h : Cs n left f cs) : (∀ i ∈ allX cs, i < n ∧ left i = true) ∧ (∀ i ∈ allX cs, f i ∈ allX cs) ∧ ∀ i ∈ allX cs, ∀ j ∈ allX cs, f i = f j → i = j := by
  have mem : ∀ i, i ∈ allX cs ↔ ∃ c ∈ cs, i ∈ c := fun i => by simp [allX]
  refine ⟨fun i hi => ?_, fun i hi => ?_, fun i hi j hj e => ?_⟩
  · obtain ⟨c, hc, hic⟩ := (mem i).1 hi
    obtain ⟨_, _, _, _, _, k⟩ := h.cyc c hc
    exact k i hic
  · obtain ⟨c, hc, hic⟩ := (mem i).1 hi
    obtain ⟨_, _, k1, k2, k3, _⟩ := h.cyc c hc
    exact (mem _).2 ⟨c, hc, k1.closed k2 k3 i hic⟩
  · obtain ⟨c, hc, hic⟩ := (mem i).1 hi
    obtain ⟨d, hd, hjd⟩ := (mem j).1 hj
    obtain ⟨_, _, k1, k2, k3, _⟩ := h.cyc c hc
    obtain ⟨_, _, l1, l2, l3, _⟩ := h.cyc d hd
    have hcd : c = d := by
      obtain ⟨a, ha⟩ := List.mem_iff_getElem?.1 hc
      obtain ⟨b, hb⟩ := List.mem_iff_getElem?.1 hd
      have hal := (List.getElem?_eq_some_iff.1 ha).1
      have hbl := (List.getElem?_eq_some_iff.1 hb).1
      have ga := (List.getElem?_eq_some_iff.1 ha).2
      have gb := (List.getElem?_eq_some_iff.1 hb).2
      have hp := List.pairwise_iff_getElem.1 h.dis
      have fc := k1.closed k2 k3 i hic
      have fd := l1.closed l2 l3 j hjd
      rw [← e] at fd
      rcases Nat.lt_trichotomy a b with h1 | h1 | h1
      · exact absurd (gb ▸ fd) (hp a b hal hbl h1 _ (ga ▸ fc))
      · subst h1; exact ga.symm.trans gb
      · exact absurd (ga ▸ fc) (hp b a hbl hal h1 _ (gb ▸ fd))
    subst hcd
    exact k1.inj k2 k3 i hic j hjd e
/-- Those whom f turns. -/
def Per (n : Nat) (left : Nat → Bool) (f : Nat → Nat) (i : Nat) : Prop := ∃ D : List Nat, i ∈ D ∧ (∀ x ∈ D, x < n ∧ left x = true) ∧ (∀ x ∈ D, f x ∈ D) ∧ ∀ x ∈ D, ∀ y ∈ D, f x = f y → x = y
theorem per_ex {n : Nat} {left : Nat → Bool} {f : Nat → Nat} (hf : ∀ i, i < n → left i = true → f i < n ∧ left (f i) = true) (h0 : ∃ i, i < n ∧ left i = true) : ∃ i, i < n ∧ left i = true ∧ Per n left f i := by
  have mem : ∀ i, i ∈ (List.range n).filter left ↔ i < n ∧ left i = true := fun i => by simp
  obtain ⟨i, hi⟩ := h0
  obtain ⟨D, _, d2, d3, d4, d5⟩ := cyc_ex (f := f) _ ((List.range n).filter left) rfl (List.nodup_range.filter _) (fun e => by
    have := (mem i).2 hi
    rw [e] at this
    cases this) (fun x hx => (mem _).2 (hf x ((mem x).1 hx).1 ((mem x).1 hx).2))
  obtain ⟨x, hx⟩ := List.exists_mem_of_ne_nil D d2
  have hD : ∀ x ∈ D, x < n ∧ left x = true := fun x hx => (mem x).1 (d3 x hx)
  exact ⟨x, (hD x hx).1, (hD x hx).2, D, hx, hD, d4, d5⟩
end Go.Proofs.Ytgidfejkfdkflaa

namespace Go.Proofs.Ytgidfejkfdkflaa
open Go Go.Eng
theorem fpos_ex {g : Int → Bool} {xs : List Int} (h : ∃ x ∈ xs, g x = true) : ∃ (i : Nat) (z : Int), xs[i]? = some z ∧ g z = true ∧ (∀ y ∈ xs.take i, g y = false) ∧ fpos g xs = i := by
  cases hf : xs.findIdx? g with
  | none =>
    rw [List.findIdx?_eq_none_iff] at hf
    obtain ⟨x, hx, hg⟩ := h
    rw [hf x hx] at hg
    cases hg
  | some i =>
    have hf' := hf
    rw [List.findIdx?_eq_some_iff_getElem] at hf
    obtain ⟨hi, hg, hlt⟩ := hf
    refine ⟨i, xs[i], List.getElem?_eq_getElem hi, hg, fun y hy => ?_, by unfold fpos; rw [hf']⟩
    obtain ⟨j, hj, rfl⟩ := List.mem_take_iff_getElem.1 hy
    have := hlt j (by omega)
    simpa using this
/-- The first in a row that is not taken. -/
def fsn (row taken : List Int) : Int := (row[(fpos (fun p => !decide (p ∈ taken)) row).toNat]?).getD 0
theorem nums_nodup (n : Nat) : (nums n).Nodup := by
  unfold nums
  refine List.Pairwise.map _ ?_ List.nodup_range
  intro a b h e
  exact h (by omega)
theorem free_ex {row taken : List Int} {n : Nat} (hr : isO row n) (ht : taken.length < n) : ∃ x ∈ row, (fun p => !decide (p ∈ taken)) x = true := by
  rcases Classical.em (∃ x ∈ row, (fun p => !decide (p ∈ taken)) x = true) with h | h
  · exact h
  exfalso
  have := sub_len (nums n) taken (nums_nodup n) (fun x hx => by
    unfold nums at hx
    obtain ⟨i, hi, rfl⟩ := List.mem_map.1 hx
    rcases Classical.em (((i : Nat) : Int) ∈ taken) with h1 | h1
    · exact h1
    · exact absurd ⟨_, hr.2 i (List.mem_range.1 hi), by simp [h1]⟩ h)
  rw [nums_len] at this
  omega
def pkL (V : List (List Int)) : List Int → List Int → List Int → List Int
  | [], out, _ => out
  | i :: r, out, tk => pkL V r (out.set i.toNat (fsn (rw' V i) tk)) (tk ++ [fsn (rw' V i) tk])
theorem s42 {tk : List Int} {tv : AV} {A : AHeap} {b : Nat} (ht : L1 A tv tk) (hl : tk.length ≤ 1000000) (hb : ldA 1 false (.ptr b 0) A = some tv) (x : Int) : ACalls Try.prog 42 [I x, .ptr b 0] A (B (!decide (x ∈ tk))) A := by
  refine acalls hmix Try.func42 (by kernel_rfl) t42 2 rfl (by decide) ?_
  dsimp only [m42]
  simp (maxSteps := 4000000) -implicitDefEqProofs -dsimp (disch := omega) only [↓AW_ops, ↓AW_seq, ↓AOps_nil, ↓AOps_pu, ↓AOps_ld, ↓AOps_call, on_some, ↓then_normal, pval, lval, rd_S, rd_C, put_S, List.replicate_succ, List.replicate_zero, List.set_cons_zero, List.set_cons_succ, List.getElem?_cons_zero, List.getElem?_cons_succ, Option.getD_some, map_c, map_n, Nat.reduceSub, List.cons_append, List.nil_append, hb]
  refine CallK.of (c_Contains ht hl x) ?_
  simp (maxSteps := 4000000) -implicitDefEqProofs -dsimp (disch := omega) only [↓AW_ret, ↓AOps_nil, ↓AOps_pu, on_some, extK_same, ↓then_normal, ↓Fin_ret, pval, rd_S, put_S, resV, resL, List.replicate_succ, List.replicate_zero, List.set_cons_zero, List.set_cons_succ, List.getElem?_cons_zero, List.getElem?_cons_succ, Option.getD_some, Nat.reduceSub, List.cons_append, List.nil_append]
  exact gc_same rfl
structure PKI (A H : AHeap) (out tk : List Int) (tv : AV) : Prop where
  pre : A <+: H
  ho : H[A.length]? = some (.cells true (out.flatMap e1))
  hb : H[A.length + 1]? = some (.cells true [tv])
  ht : (tk = [] ∧ tv = .nilS) ∨ (tk ≠ [] ∧ ∃ m, tv = .sl 1 m 0 tk.length false ∧ A.length + 1 < m ∧ H[m]? = some (.cells true (tk.flatMap e1)))
theorem PKI.acc {A H : AHeap} {out tk : List Int} {tv : AV} (h : PKI A H out tk tv) : AccL 1 e1 A H tv tk := by
  refine ⟨h.pre, flatMap_length e1_len tk, ?_⟩
  rcases h.ht with ⟨rfl, rfl⟩ | ⟨h0, m, rfl, hm, ho⟩
  · exact .inl ⟨rfl, rfl⟩
  · exact .inr ⟨List.length_pos_iff.2 h0, m, rfl, by omega, ho⟩
theorem PKI.ol {A H : AHeap} {out tk : List Int} {tv : AV} (h : PKI A H out tk tv) (full : Bool) : OL 1 e1 A H A.length (.sl 1 A.length 0 out.length full) out := ⟨e1_len, h.pre, Nat.le_refl _, h.ho, full, rfl⟩
theorem PKI.out {A H : AHeap} {out tk : List Int} {tv : AV} (h : PKI A H out tk tv) (out' : List Int) : PKI A (H.set A.length (.cells true (out'.flatMap e1))) out' tk tv := by
  have hl := (List.getElem?_eq_some_iff.1 h.ho).1
  refine ⟨pre_set h.pre (Nat.le_refl _) _, List.getElem?_set_self hl, by rw [List.getElem?_set_ne (by omega)]; exact h.hb, ?_⟩
  rcases h.ht with h1 | ⟨h0, m, h1, hm, ho⟩
  · exact .inl h1
  · exact .inr ⟨h0, m, h1, hm, by rw [List.getElem?_set_ne (by omega)]; exact ho⟩
theorem PKI.push {A H : AHeap} {out tk : List Int} {tv : AV} (h : PKI A H out tk tv) (z : Int) (hl : tk.length ≤ 1000) : ∃ tv' H2, appA 1 (H ++ [.cells true [I z]]) tv (.sl 1 H.length 0 1 true) = some (tv', H2) ∧ stA 1 (.ptr (A.length + 1) 0) tv' H2 = some (H2.set (A.length + 1) (.cells true [tv'])) ∧ PKI A (H2.set (A.length + 1) (.cells true [tv'])) out (tk ++ [z]) tv' := by
  obtain ⟨tv', H2, happ, hacc⟩ := h.acc.push e1_len z (by simp [lim]; omega)
  simp only [e1] at happ
  have hbl := (List.getElem?_eq_some_iff.1 h.hb).1
  have hne : ∀ n, n ≤ A.length + 1 → tv = .nilS ∨ nm tv ≠ n := fun n hn => by
    rcases h.ht with ⟨_, h1⟩ | ⟨_, m, h1, hm, _⟩
    · exact .inl h1
    · right; rw [h1]; simp only [nm]; omega
  have k0 := app_keep happ (pre_get (pre_app H [AObj.cells true [I z]]) h.ho) (hne _ (by omega))
  have k1 := app_keep happ (pre_get (pre_app H [AObj.cells true [I z]]) h.hb) (hne _ (by omega))
  rcases hacc.2.2 with ⟨h1, _⟩ | ⟨_, m, h1, h2, h3⟩
  · simp at h1
  have hm : A.length + 1 < m := by
    rcases app_nm happ with h4 | h4
    · rcases h.ht with ⟨_, h5⟩ | ⟨_, m', h5, hm, _⟩
      · rw [h4, h5] at h1; cases h1
      · rw [h4, h5] at h1; simp at h1
    · rw [h1] at h4
      simp only [nm] at h4
      rw [h4]
      simp
      omega
  have hcv : tv'.cells? = some [tv'] := by rw [h1]; rfl
  have hk1l := (List.getElem?_eq_some_iff.1 k1).1
  refine ⟨tv', H2, happ, by simp [stA, hcv, k1, splice], pre_set hacc.1 (by omega) _, by rw [List.getElem?_set_ne (by omega)]; exact k0, List.getElem?_set_self hk1l, .inr ⟨by simp, m, h1, hm, by rw [List.getElem?_set_ne (by omega)]; exact h3⟩⟩
set_option maxHeartbeats 4000000 in
theorem s31 {ws : List (AV × List Int)} {v u : AV} {od : List Int} {A : AHeap} (hV : LL A v ws) (hs : Sz ws) (hg : gd (lists ws)) (ho : L1 A u od) (hol : od.length = ws.length) (hin : ∀ i ∈ od, 0 ≤ i ∧ i < ws.length) :
    ∃ r H', ACalls Try.prog 31 [v, u] A r H' ∧ A <+: H' ∧ L1 H' r (pkL (lists ws) od (List.replicate ws.length 0) []) := by
  refine acallsR hmix Try.func31 (by kernel_rfl) t31 _ 2 rfl (by decide) ?_
  have hll : (lists ws).length = ws.length := by simp
  have hn := hg.1
  rw [hll] at hn
  have hlim : (0 : Int) ≤ ws.length ∧ (ws.length : Int) ≤ ((lim : Nat) : Int) := by simp [lim]; omega
  have hrp : repl [AV.int .i64 0] ws.length = (List.replicate ws.length (0 : Int)).flatMap e1 := by
    generalize ws.length = n
    induction n with
    | zero => rfl
    | succ n ih => rw [repl, ih, List.replicate_succ, List.flatMap_cons]; rfl
  have h0 : PKI A (A ++ [.cells true ((List.replicate ws.length (0 : Int)).flatMap e1)] ++ [.cells true [.nilS]]) (List.replicate ws.length 0) [] .nilS :=
    ⟨(pre_app _ _).trans (pre_app _ _), pre_get (pre_app _ _) (get_new _ _), by
      rw [List.getElem?_append_right (by simp)]
      simp, .inl ⟨rfl, rfl⟩⟩
  have hle : (ws.length : Int) ≤ ws.length := Int.le_refl _
  have hlen : (A ++ [AObj.cells true ((List.replicate ws.length (0 : Int)).flatMap e1)]).length = A.length + 1 := by simp
  dsimp only [m31]
  simp (maxSteps := 4000000) -implicitDefEqProofs -dsimp (disch := omega) only [↓AW_ops, ↓AW_seq, ↓AW_block, ↓AOps_nil, ↓AOps_pu, ↓AOps_ha, on_some, extK_app, ↓then_normal, pval, hval_newv, hval_mks, rd_S, rd_C, put_S, ↓AW_toLoop, cells_nilS, beq_self_eq_true, List.replicate_succ, List.replicate_zero, List.set_cons_zero, List.set_cons_succ, List.getElem?_cons_zero, List.getElem?_cons_succ, Option.getD_some, Nat.reduceSub, List.cons_append, List.nil_append, if_true, and_true, hV.ls.len, hlim, hle, hrp, ho.len, Int.toNat_natCast]
  rw [hlen]
  refine LoopK.by 42 (fun x : Nat × List Int × List Int × AV × AHeap => (x.1 ≤ od.length ∧ x.2.2.1.length = x.1 ∧ x.2.1.length = ws.length) ∧ PKI A x.2.2.2.2 x.2.1 x.2.2.1 x.2.2.2.1 ∧ pkL (lists ws) od (List.replicate ws.length 0) [] = pkL (lists ws) (od.drop x.1) x.2.1 x.2.2.1)
    (fun x => [(0, v), (5, .sl 1 A.length 0 ws.length true), (6, .ptr (A.length + 1) 0), (12, u), (13, I od.length), (14, I x.1)]) (fun x => x.2.2.2.2) (fun x => od.length - x.1) (0, List.replicate ws.length 0, [], .nilS, _) ⟨⟨Nat.zero_le _, rfl, by simp⟩, h0, rfl⟩ rfl (by simp [Has, rd_s]) rfl ?_
  rintro ⟨k, out, tk, tv, H⟩ ⟨⟨hk, htl, hout⟩, hp, he⟩
  simp only at hk htl hout hp he
  have hV1 := hV.mono hp.pre
  have ho1 := ho.mono hp.pre
  by_cases hlt : k < od.length
  · obtain ⟨i, hz⟩ : ∃ z, od[k]? = some z := ⟨_, List.getElem?_eq_getElem hlt⟩
    have hlt' : (k : Int) < od.length := by omega
    obtain ⟨i0, i1⟩ := hin i (List.mem_of_getElem? hz)
    obtain ⟨o, rfl⟩ : ∃ o : Nat, i = o := ⟨i.toNat, by omega⟩
    have hol' : o < ws.length := by omega
    obtain ⟨w, hw⟩ : ∃ w, ws[o]? = some w := ⟨_, List.getElem?_eq_getElem hol'⟩
    have hwm := List.mem_of_getElem? hw
    have hwo := hg.2 _ (mem_lists hwm)
    rw [hll] at hwo
    obtain ⟨j, z, hjz, hgz, _, hfp⟩ := fpos_ex (free_ex hwo (taken := tk) (by omega))
    have hjl := (List.getElem?_eq_some_iff.1 hjz).1
    have hrw : rw' (lists ws) (o : Int) = w.2 := by unfold rw'; rw [Int.toNat_natCast, ws_get hw]; rfl
    have hfs : fsn w.2 tk = z := by unfold fsn; rw [hfp, Int.toNat_natCast, hjz]; rfl
    have hlb : ldA 1 false (.ptr (A.length + 1) 0) H = some tv := by simp [ldA, partA, hp.hb]
    have htk : L1 H tv tk := AccL_ls hp.acc e1_len
    have c41 := c_IndexFunc (hV1.inn w hwm) (hs.w w hwm) 42 [.ptr (A.length + 1) 0] (fun p => !decide (p ∈ tk)) (fun x _ => s42 htk (by omega) hlb x)
    rw [hfp] at c41
    have hlo : o < out.length := by omega
    have hol1 := hp.ol true
    rw [hout] at hol1
    have hst := hol1.st hlo (I z) z rfl
    have hp1 := hp.out (out.set o z)
    have hol2 := hp1.ol true
    rw [List.length_set, hout] at hol2
    have hidx := hol1.ls.idx (k := .i64) hlo
    obtain ⟨tv', H2, happ, hst2, hp2⟩ := hp1.push z (by omega)
    have hget : (out.set o z)[o]? = some z := List.getElem?_set_self hlo
    have hlo2 : o < (out.set o z).length := by simpa using hlo
    have hidx2 := hol2.ls.idx (k := .i64) hlo2
    have hld2 := hol2.ls.ld0 hget 1 false (by decide)
    have hlb2 : ldA 1 false (.ptr (A.length + 1) 0) (H.set A.length (.cells true ((out.set o z).flatMap e1))) = some tv := by simp [ldA, partA, hp1.hb]
    simp (maxSteps := 4000000) -implicitDefEqProofs -dsimp (disch := omega) only [↓AW_skip, ↓AW_ops, ↓AW_seq, ↓AW_cond, ↓AW_block, ↓AOps_nil, ↓AOps_pu, ↓AOps_ld, ↓AOps_call, on_some, condB_t, ↓then_normal, pval, lval, rd_S, put_S, partA, eq_self, mk, List.foldl_cons, List.foldl_nil, List.replicate_succ, List.replicate_zero, List.set_cons_zero, List.set_cons_succ, List.getElem?_cons_zero, List.getElem?_cons_succ, List.drop_zero, List.take_succ_cons, List.take_nil, Option.getD_some, map_c, map_n, List.length_cons, List.length_nil, Nat.reduceLeDiff, Nat.zero_add, bin_lss, if_true, if_false, Bool.false_eq_true, decide_true, Go.Eng.e1, hlt', ho1.idx hlt, ho1.ld0 hz 1 false (by decide), hV1.ls.idx hol', hV1.ls.ld0 hw 1 false (by decide), e0]
    refine CallK.of c41 ?_
    simp (maxSteps := 4000000) -implicitDefEqProofs -dsimp (disch := omega) only [↓AW_ops, ↓AOps_nil, ↓AOps_pu, ↓AOps_ld, ↓AOps_ha, on_some, extK_false, extK_app, extK_same, ↓then_normal, ↓inBlock_normal, pval, lval, hval_st, hval_blds, hval_app, rd_S, rd_C, put_S, putS_none, cells_int, splice, partA, fillA, repl, eq_self, mk, List.foldl_cons, List.foldl_nil, List.replicate_succ, List.replicate_zero, List.set_cons_zero, List.set_cons_succ, List.getElem?_cons_zero, List.getElem?_cons_succ, List.drop_zero, List.drop_succ_cons, List.drop_nil, List.take_zero, List.take_succ_cons, List.take_nil, Option.getD_some, Option.map_some, map_c, map_n, List.length_cons, List.length_nil, Nat.reduceAdd, Nat.reduceLeDiff, Nat.zero_add, List.nil_append, List.append_nil, bin_add, w64, if_true, if_false, Bool.false_eq_true, Go.Eng.e1, true_and, and_true, (hV1.inn w hwm).idx hjl, (hV1.inn w hwm).ld0 hjz 1 false (by decide), e1, hidx, hst, hld2, hlb2, List.replicate_zero, repl, happ, hst2]
    refine ⟨(k + 1, out.set o z, tk ++ [z], tv', _), ⟨⟨hlt, by simp [htl], by simp [hout]⟩, hp2, ?_⟩, by simp [Has, rd_s], rfl, by simp only; omega⟩
    have hd : od.drop k = (o : Int) :: od.drop (k + 1) := by
      have := (List.getElem?_eq_some_iff.1 hz).2
      rw [List.drop_eq_getElem_cons hlt, this]
    rw [hd, pkL, hrw, hfs, Int.toNat_natCast] at he
    exact he
  · have hlt' : ¬ ((k : Int) < od.length) := by omega
    rw [List.drop_eq_nil_of_le (by omega), pkL] at he
    simp (maxSteps := 4000000) -implicitDefEqProofs -dsimp (disch := omega) only [↓AW_ops, ↓AW_seq, ↓AW_cond, ↓AW_exit, ↓AW_ret, ↓AOps_nil, ↓AOps_pu, on_some, condB_f, ↓then_normal, ↓then_exit, ↓inBlock_exit, ↓FinR_ret, pval, rd_S, put_S, resV, resL, eq_self, mk, List.foldl_cons, List.foldl_nil, List.replicate_succ, List.replicate_zero, List.set_cons_zero, List.set_cons_succ, List.getElem?_cons_zero, List.getElem?_cons_succ, Option.getD_some, bin_lss, if_true, decide_false, hlt']
    have := (hp.ol true).ls
    rw [hout] at this
    exact ⟨_, _, gc_all, hp.pre, by rw [he]; exact this⟩
/-- Whether an order picks a deal. -/
def pkB (V : List (List Int)) (d o : List Int) : Bool := decide (pkL V o (List.replicate V.length 0) [] = d)
theorem s29 {ws : List (AV × List Int)} {v u w : AV} {d od : List Int} {A : AHeap} {a b : Nat} (hV : LL A v ws) (hs : Sz ws) (hg : gd (lists ws)) (hd : L1 A u d) (hdl : d.length ≤ 1000000) (ho : L1 A w od) (hol : od.length = ws.length) (hin : ∀ i ∈ od, 0 ≤ i ∧ i < ws.length) (ha : ldA 1 false (.ptr a 0) A = some v) (hb : ldA 1 false (.ptr b 0) A = some u) :
    ACalls Try.prog 29 [w, .ptr a 0, .ptr b 0] A (B (pkB (lists ws) d od)) A := by
  obtain ⟨r, H, hc, hp, hr⟩ := s31 hV hs hg ho hol hin
  have hll : (lists ws).length = ws.length := by simp
  have hb1 := ld_mono hp hb
  have hpl : ∀ (o out tk : List Int), (pkL (lists ws) o out tk).length = out.length := by
    intro o
    induction o with
    | nil => intro out tk; rfl
    | cons i r ih => intro out tk; rw [pkL, ih, List.length_set]
  refine acalls hmix Try.func29 (by kernel_rfl) t29 3 rfl (by decide) ?_
  dsimp only [m29]
  simp (maxSteps := 4000000) -implicitDefEqProofs -dsimp (disch := omega) only [↓AW_ops, ↓AW_seq, ↓AOps_nil, ↓AOps_pu, ↓AOps_ld, ↓AOps_call, on_some, ↓then_normal, pval, lval, rd_S, rd_C, put_S, List.replicate_succ, List.replicate_zero, List.set_cons_zero, List.set_cons_succ, List.getElem?_cons_zero, List.getElem?_cons_succ, Option.getD_some, map_c, map_n, Nat.reduceSub, List.cons_append, List.nil_append, ha]
  refine CallK.of hc ?_
  simp (maxSteps := 4000000) -implicitDefEqProofs -dsimp (disch := omega) only [↓AOps_ld, ↓AOps_call, on_some, lval, rd_S, put_S, List.replicate_succ, List.replicate_zero, List.set_cons_zero, List.set_cons_succ, List.getElem?_cons_zero, List.getElem?_cons_succ, Option.getD_some, map_c, map_n, Nat.reduceSub, List.cons_append, List.nil_append, extK_of hp, hb1]
  refine CallK.of (c_Equal hr (hd.mono hp) (by rw [hpl]; simp; exact hs.v)) ?_
  simp (maxSteps := 4000000) -implicitDefEqProofs -dsimp (disch := omega) only [↓AW_ret, ↓AOps_nil, ↓AOps_pu, on_some, extK_same, ↓then_normal, ↓Fin_ret, pval, rd_S, put_S, resV, resL, List.replicate_succ, List.replicate_zero, List.set_cons_zero, List.set_cons_succ, List.getElem?_cons_zero, List.getElem?_cons_succ, Option.getD_some, Nat.reduceSub, List.cons_append, List.nil_append]
  refine gc_val hp ?_
  unfold pkB
  rw [hll]
  rfl
end Go.Proofs.Ytgidfejkfdkflaa

namespace Go.Proofs.Ytgidfejkfdkflaa
open Go Go.Eng
theorem nums_in {n : Nat} {o : List Int} (h : o.Perm (nums n)) : ∀ i ∈ o, 0 ≤ i ∧ i < n := fun i hi => by
  have := h.mem_iff.1 hi
  unfold nums at this
  obtain ⟨j, hj, rfl⟩ := List.mem_map.1 this
  have := List.mem_range.1 hj
  omega
set_option maxHeartbeats 4000000 in
theorem s14 {ws : List (AV × List Int)} {v u : AV} {d : List Int} {A : AHeap} (hV : LL A v ws) (hs : Sz ws) (hd : L1 A u d) (hg : gd (lists ws)) (ho : isO d ws.length) :
    ACalls Try.prog 14 [v, u] A (.tuple [B ((ordF ws.length (nums ws.length)).any (pkB (lists ws) d)), I 0]) A := by
  have hll : (lists ws).length = ws.length := by simp
  have hn := hg.1
  rw [hll] at hn
  have hdl := ho.1
  have hE : oE (lists ws) d = 0 := by rw [oE, if_pos ⟨hg, by rw [hll]; exact ho⟩]
  have hcv : v.cells? = some [v] := Ls_cells hV.ls
  have hcu : u.cells? = some [u] := Ls_cells hd
  have pA : A <+: A ++ [AObj.cells true [v]] ++ [AObj.cells true [u]] := (pre_app _ _).trans (pre_app _ _)
  have la : ldA 1 false (.ptr A.length 0) (A ++ [AObj.cells true [v]] ++ [AObj.cells true [u]]) = some v := by simp [ldA, partA]
  have lb : ldA 1 false (.ptr (A ++ [AObj.cells true [v]]).length 0) (A ++ [AObj.cells true [v]] ++ [AObj.cells true [u]]) = some u := by simp [ldA, partA]
  refine acalls hmix Try.func14 (by kernel_rfl) t14 2 rfl (by decide) ?_
  dsimp only [m14]
  simp (maxSteps := 4000000) -implicitDefEqProofs -dsimp (disch := omega) only [↓AW_ops, ↓AW_seq, ↓AOps_nil, ↓AOps_pu, ↓AOps_ld, ↓AOps_ha, ↓AOps_call, on_some, extK_app, ↓then_normal, pval, lval, hval_newv, rd_S, rd_C, put_S, List.replicate_succ, List.replicate_zero, List.set_cons_zero, List.set_cons_succ, List.getElem?_cons_zero, List.getElem?_cons_succ, Option.getD_some, map_c, map_n, Nat.reduceSub, List.cons_append, List.nil_append, hcv, hcu, la, lb]
  generalize A ++ [AObj.cells true [v]] ++ [AObj.cells true [u]] = A1 at *
  have hV1 := hV.mono pA
  have hd1 := hd.mono pA
  refine CallK.of (s17 hV1 hs hd1 (by omega)) ?_
  have hA : 0 < A1.length := hV1.pos (by omega)
  have c28 := s28 hV1 (by omega)
  have p1 := pre_out A1 ((nums ws.length).flatMap e1) (nums ws.length).length
  have q1 := Ls_out A1 e1_len (nums ws.length)
  generalize outV 1 A1 (nums ws.length).length = v1 at *
  generalize outH A1 ((nums ws.length).flatMap e1) (nums ws.length).length = A2 at *
  obtain ⟨r2, A3, c27, ws2, n2, w2⟩ := s27 ws.length (nums ws.length) v1 A2 (nums_len _) hn.2 (by have := p1.length_le; omega) q1
  simp (maxSteps := 4000000) -implicitDefEqProofs -dsimp (disch := omega) only [↓AW_skip, ↓AW_ops, ↓AW_seq, ↓AW_cond, ↓AOps_nil, ↓AOps_pu, ↓AOps_ld, ↓AOps_call, on_some, extK_same, condB_f, ↓then_normal, pval, lval, rd_S, rd_C, put_S, eq_self, List.replicate_succ, List.replicate_zero, List.set_cons_zero, List.set_cons_succ, List.getElem?_cons_zero, List.getElem?_cons_succ, Option.getD_some, map_c, map_n, Nat.reduceSub, List.cons_append, List.nil_append, bin_neq, decide_false, not_true_eq_false, hE, la]
  refine CallK.of c28 ?_
  simp (maxSteps := 4000000) -implicitDefEqProofs -dsimp (disch := omega) only [↓AOps_call, extK_false, rd_S, put_S, List.replicate_succ, List.replicate_zero, List.set_cons_zero, List.set_cons_succ, List.getElem?_cons_zero, List.getElem?_cons_succ, Option.getD_some, map_c, map_n, Nat.reduceSub, List.cons_append, List.nil_append]
  refine CallK.of c27 ?_
  have p3 := p1.trans n2.acc.1
  have hV3 := hV1.mono p3
  have hd3 := hd1.mono p3
  have la3 := ld_mono p3 la
  have lb3 := ld_mono p3 lb
  have hLL := n2.ll
  have hcnt : ws2.length ≤ 3125 := by
    have := ordF_cnt ws.length (nums ws.length) (nums_len _) hn.2
    rw [← w2, List.length_map] at this
    have h3 : 5 ^ ws.length ≤ 5 ^ 5 := Nat.pow_le_pow_right (by omega) hn.2
    omega
  have hrows : ∀ x ∈ ws2, x.2.Perm (nums ws.length) := fun x hx => ordF_len _ _ (nums_len _) _ (by rw [← w2]; exact mem_lists hx)
  have c21 := s21 hLL (by omega) 29 [.ptr A.length 0, .ptr (A ++ [AObj.cells true [v]]).length 0] (pkB (lists ws) d) (fun x hx => s29 hV3 hs hg hd3 (by omega) (hLL.inn x hx) (by rw [(hrows x hx).length_eq, nums_len]) (nums_in (hrows x hx)) la3 lb3)
  rw [w2] at c21
  simp (maxSteps := 4000000) -implicitDefEqProofs -dsimp (disch := omega) only [↓AOps_pu, ↓AOps_call, on_some, extK_false, pval, rd_S, put_S, List.replicate_succ, List.replicate_zero, List.set_cons_zero, List.set_cons_succ, List.getElem?_cons_zero, List.getElem?_cons_succ, Option.getD_some, map_c, map_n, Nat.reduceSub, List.cons_append, List.nil_append]
  refine CallK.of c21 ?_
  simp (maxSteps := 4000000) -implicitDefEqProofs -dsimp (disch := omega) only [↓AW_ret, ↓AOps_nil, ↓AOps_pu, on_some, extK_same, ↓then_normal, ↓Fin_ret, pval, rd_S, rd_C, put_S, resV, resL, List.replicate_succ, List.replicate_zero, List.set_cons_zero, List.set_cons_succ, List.getElem?_cons_zero, List.getElem?_cons_succ, Option.getD_some, Nat.reduceSub, List.cons_append, List.nil_append]
  exact gc_val (pA.trans p3) rfl
end Go.Proofs.Ytgidfejkfdkflaa

namespace Go.Proofs.Ytgidfejkfdkflaa
open Go Go.Eng
theorem pos_in {l : List Int} {p : Int} (h : p ∈ l) : ∃ i : Nat, pos l p = i ∧ l[i]? = some p := by
  obtain ⟨i, z, h1, h2, _, h4⟩ := fpos_ex (g := fun y => decide (p = y)) (xs := l) ⟨p, h, by simp⟩
  have : p = z := by simpa using h2
  subst this
  exact ⟨i, h4, h1⟩
theorem pos_inj {l : List Int} {p q : Int} (hp : p ∈ l) (hq : q ∈ l) (h : pos l p = pos l q) : p = q := by
  obtain ⟨i, h1, h2⟩ := pos_in hp
  obtain ⟨j, h3, h4⟩ := pos_in hq
  have : i = j := by omega
  subst this
  rw [h2] at h4
  exact Option.some.inj h4
/-- How an owner likes a plot. -/
def rk (V : List (List Int)) (i p : Nat) : Nat := (pos (rw' V i) p).toNat
theorem row_O {V : List (List Int)} (hg : gd V) {i : Nat} (hi : i < V.length) : isO (rw' V i) V.length := by
  unfold rw'
  rw [Int.toNat_natCast, List.getElem?_eq_getElem hi]
  exact hg.2 _ (List.getElem_mem hi)
theorem rk_pos {V : List (List Int)} (hg : gd V) {i p : Nat} (hi : i < V.length) (hp : p < V.length) : pos (rw' V i) p = (rk V i p : Int) := by
  obtain ⟨j, h1, _⟩ := pos_in ((row_O hg hi).2 p hp)
  unfold rk
  rw [h1]
  rfl
theorem rk_RI {V : List (List Int)} (hg : gd V) : RI V.length (rk V) := by
  intro i p q hi hp hq h
  have := pos_inj ((row_O hg hi).2 p hp) ((row_O hg hi).2 q hq) (by rw [rk_pos hg hi hp, rk_pos hg hi hq, h])
  omega
/-- A deal as a map. -/
def fo (o : List Int) (i : Nat) : Nat := ((o[i]?).getD 0).toNat
theorem fo_at {n : Nat} {o : List Int} (h : o.Perm (nums n)) {i : Nat} (hi : i < n) : o[i]? = some (fo o i : Int) ∧ fo o i < n := by
  have hl : o.length = n := by rw [h.length_eq, nums_len]
  have hm : o[i]? = some o[i] := List.getElem?_eq_getElem (by omega)
  have := nums_in h o[i] (List.getElem_mem (by omega))
  unfold fo
  rw [hm]
  simp only [Option.getD_some]
  exact ⟨by congr 1; omega, by omega⟩
theorem fo_inj {n : Nat} {o : List Int} (h : o.Perm (nums n)) {i j : Nat} (hi : i < n) (hj : j < n) (e : fo o i = fo o j) : i = j := by
  have h1 := (fo_at h hi).1
  have h2 := (fo_at h hj).1
  rw [← e] at h2
  have hnd : o.Nodup := h.nodup_iff.2 (nums_nodup n)
  have hp := List.pairwise_iff_getElem.1 hnd
  obtain ⟨a1, a2⟩ := List.getElem?_eq_some_iff.1 h1
  obtain ⟨b1, b2⟩ := List.getElem?_eq_some_iff.1 h2
  rcases Nat.lt_trichotomy i j with h3 | h3 | h3
  · exact absurd (a2.trans b2.symm) (hp i j a1 b1 h3)
  · exact h3
  · exact absurd (b2.trans a2.symm) (hp j i b1 a1 h3)
theorem nums_at {n i : Nat} (hi : i < n) : (nums n)[i]? = some (i : Int) := by
  unfold nums
  rw [List.getElem?_map, List.getElem?_range hi]
  rfl
theorem isO_perm {d : List Int} {n : Nat} (h : isO d n) : d.Perm (nums n) := by
  have hs : ∀ (l1 l2 : List Int), l1.Nodup → (∀ x ∈ l1, x ∈ l2) → l1.length = l2.length → l2.Perm l1 := by
    intro l1
    induction l1 with
    | nil => intro l2 _ _ h3; rw [List.eq_nil_of_length_eq_zero h3.symm]
    | cons a l1 ih =>
      intro l2 h1 h2 h3
      have ha := h2 a (by simp)
      have hn := List.nodup_cons.1 h1
      refine (List.perm_cons_erase ha).trans (List.Perm.cons a (ih _ hn.2 (fun x hx => (List.mem_erase_of_ne (fun e => hn.1 (by rw [← e]; exact hx))).2 (h2 x (by simp [hx]))) ?_))
      rw [List.length_erase_of_mem ha, ← h3]
      simp
  refine hs (nums n) d (nums_nodup n) (fun x hx => ?_) (by rw [nums_len, h.1])
  unfold nums at hx
  obtain ⟨i, hi, rfl⟩ := List.mem_map.1 hx
  exact h.2 i (List.mem_range.1 hi)
/-- What it is to be better for all. -/
theorem imB_iff {V : List (List Int)} (hg : gd V) {d o : List Int} (hd : d.Perm (nums V.length)) (ho : o.Perm (nums V.length)) : imB V d o = true ↔ (∀ i, i < V.length → rk V i (fo o i) ≤ rk V i (fo d i)) ∧ ∃ i, i < V.length ∧ rk V i (fo o i) < rk V i (fo d i) := by
  have hz : ∀ x, x ∈ (nums V.length).zip o ↔ ∃ i, i < V.length ∧ x = ((i : Int), (fo o i : Int)) := by
    intro x
    constructor
    · intro hx
      obtain ⟨i, hi⟩ := List.mem_iff_getElem?.1 hx
      have hi2 := List.getElem?_zip_eq_some.1 hi
      have hil : i < V.length := by
        have := (List.getElem?_eq_some_iff.1 hi2.1).1
        rwa [nums_len] at this
      rw [nums_at hil] at hi2
      rw [(fo_at ho hil).1] at hi2
      refine ⟨i, hil, ?_⟩
      obtain ⟨a, b⟩ := x
      have e1 := Option.some.inj hi2.1
      have e2 := Option.some.inj hi2.2
      simp only at e1 e2
      rw [← e1, ← e2]
    · rintro ⟨i, hi, rfl⟩
      exact List.mem_iff_getElem?.2 ⟨i, List.getElem?_zip_eq_some.2 ⟨nums_at hi, (fo_at ho hi).1⟩⟩
  have hdg : ∀ i, i < V.length → dg d (i : Int) = (fo d i : Int) := fun i hi => by
    unfold dg
    rw [Int.toNat_natCast, (fo_at hd hi).1]
    rfl
  unfold imB
  rw [gnB_iff]
  constructor
  · rintro ⟨h1, h2⟩
    refine ⟨fun i hi => ?_, ?_⟩
    · have := h1 _ ((hz _).2 ⟨i, hi, rfl⟩)
      simp only [hdg i hi] at this
      rw [rk_pos hg hi (fo_at hd hi).2, rk_pos hg hi (fo_at ho hi).2] at this
      omega
    · rcases h2 with h2 | ⟨x, hx, h2⟩
      · cases h2
      · obtain ⟨i, hi, rfl⟩ := (hz x).1 hx
        refine ⟨i, hi, ?_⟩
        simp only [hdg i hi] at h2
        rw [rk_pos hg hi (fo_at hd hi).2, rk_pos hg hi (fo_at ho hi).2] at h2
        omega
  · rintro ⟨h1, i, hi, h2⟩
    refine ⟨fun x hx => ?_, .inr ⟨_, (hz _).2 ⟨i, hi, rfl⟩, ?_⟩⟩
    · obtain ⟨j, hj, rfl⟩ := (hz x).1 hx
      have := h1 j hj
      simp only [hdg j hj]
      rw [rk_pos hg hj (fo_at hd hj).2, rk_pos hg hj (fo_at ho hj).2]
      omega
    · simp only [hdg i hi]
      rw [rk_pos hg hi (fo_at hd hi).2, rk_pos hg hi (fo_at ho hi).2]
      omega
end Go.Proofs.Ytgidfejkfdkflaa

namespace Go.Proofs.Ytgidfejkfdkflaa
open Go Go.Eng
theorem perm_of {n : Nat} {g : Nat → Nat} (h1 : ∀ i, i < n → g i < n) (h2 : ∀ i j, i < n → j < n → g i = g j → i = j) : ((List.range n).map (fun i => (g i : Int))).Perm (nums n) := by
  refine isO_perm ⟨by simp, fun p hp => ?_⟩
  obtain ⟨i, hi, e⟩ := inj_onto (f := g) (l := List.range n) List.nodup_range (fun x hx => List.mem_range.2 (h1 x (List.mem_range.1 hx))) (fun x hx y hy => h2 x y (List.mem_range.1 hx) (List.mem_range.1 hy)) (List.mem_range.2 hp)
  exact List.mem_map.2 ⟨i, hi, by rw [e]⟩
theorem fo_map {n : Nat} {g : Nat → Nat} {i : Nat} (hi : i < n) : fo ((List.range n).map (fun i => (g i : Int))) i = g i := by
  unfold fo
  rw [List.getElem?_map, List.getElem?_range hi]
  simp
theorem noImp_of {V : List (List Int)} (hg : gd V) {d : List Int} (hd : d.Perm (nums V.length)) (h : ∀ o : List Int, o.Perm (nums V.length) → imB V d o = false) : NoImp V.length (rk V) (fo d) := by
  intro g g1 g2 g3 i hi hlt
  have hp := perm_of g1 g2
  have := h _ hp
  have h2 := (imB_iff hg hd hp).2 ⟨fun j hj => by rw [fo_map hj]; exact g3 j hj, i, hi, by rw [fo_map hi]; exact hlt⟩
  rw [this] at h2
  cases h2
theorem fsn_eq {row tk : List Int} {p : Int} (hp : p ∈ row) (hn : p ∉ tk) (hb : ∀ y ∈ row, pos row y < pos row p → y ∈ tk) : fsn row tk = p := by
  obtain ⟨i, z, h1, h2, h3, h4⟩ := fpos_ex (g := fun q => !decide (q ∈ tk)) (xs := row) ⟨p, hp, by simp [hn]⟩
  have hz : z ∉ tk := by simpa using h2
  have hzr := List.mem_of_getElem? h1
  have e : fsn row tk = z := by unfold fsn; rw [h4, Int.toNat_natCast, h1]; rfl
  rw [e]
  rcases Int.lt_trichotomy (pos row z) (pos row p) with h5 | h5 | h5
  · exact absurd (hb z hzr h5) hz
  · exact pos_inj hzr hp h5
  · exfalso
    obtain ⟨j, z', k1, k2, k3, k4⟩ := fpos_ex (g := fun y => decide (z = y)) (xs := row) ⟨z, hzr, by simp⟩
    obtain ⟨m, m1, m2⟩ := pos_in hp
    have hj : pos row z = j := k4
    have hji : j ≤ i := by
      rcases Nat.lt_or_ge i j with h6 | h6
      · exfalso
        have : z ∈ row.take j := List.mem_of_getElem? (i := i) (by rw [List.getElem?_take, if_pos h6]; exact h1)
        have := k3 z this
        simp at this
      · exact h6
    have hmi : m < i := by omega
    have hpt : p ∈ row.take i := List.mem_of_getElem? (i := m) (by rw [List.getElem?_take, if_pos hmi]; exact m2)
    have := h3 p hpt
    simp at this
    exact hn this
theorem pick_all {V : List (List Int)} (hg : gd V) {d : List Int} (hd : d.Perm (nums V.length)) : ∀ (r a : List Nat) (out : List Int), (a ++ r).Perm (List.range V.length) → (a ++ r).Pairwise (fun i j => rk V i (fo d i) ≤ rk V i (fo d j)) → out.length = V.length → (∀ i ∈ a, out[i]? = d[i]?) →
    pkL V (r.map (fun i : Nat => (i : Int))) out (a.map (fun i => (fo d i : Int))) = d
  | [], a, out, hp, _, hl, ho => by
    show out = d
    have hdl : d.length = V.length := by rw [hd.length_eq, nums_len]
    refine List.ext_getElem? (fun i => ?_)
    rcases Nat.lt_or_ge i V.length with h | h
    · exact ho i (by have := hp.mem_iff (a := i); rw [List.append_nil] at this; exact this.2 (List.mem_range.2 h))
    · rw [List.getElem?_eq_none (by omega), List.getElem?_eq_none (by omega)]
  | i :: r, a, out, hp, hpw, hl, ho => by
    have hi : i < V.length := List.mem_range.1 (hp.mem_iff.1 (by simp))
    have hnd : (a ++ i :: r).Nodup := hp.nodup_iff.2 List.nodup_range
    have hain : ∀ j ∈ a, j < V.length := fun j hj => List.mem_range.1 (hp.mem_iff.1 (by simp [hj]))
    obtain ⟨hd1, hd2⟩ := fo_at hd hi
    have hrow := row_O hg hi
    have hfs : fsn (rw' V (i : Int)) (a.map (fun i => (fo d i : Int))) = (fo d i : Int) := by
      refine fsn_eq (hrow.2 _ hd2) (fun hm => ?_) (fun y hy hlt => ?_)
      · obtain ⟨j, hj, e⟩ := List.mem_map.1 hm
        have hji := fo_inj hd (hain j hj) hi (by omega)
        subst hji
        rw [List.nodup_append] at hnd
        exact hnd.2.2 j hj j (by simp) rfl
      · have hyn := nums_in (isO_perm hrow) y hy
        obtain ⟨q, rfl⟩ : ∃ q : Nat, y = q := ⟨y.toNat, by omega⟩
        have hq : q < V.length := by omega
        obtain ⟨j, hj, e⟩ := inj_onto (f := fo d) (l := List.range V.length) List.nodup_range (fun x hx => List.mem_range.2 (fo_at hd (List.mem_range.1 hx)).2) (fun x hx y hy => fo_inj hd (List.mem_range.1 hx) (List.mem_range.1 hy)) (List.mem_range.2 hq)
        subst e
        rw [rk_pos hg hi hq, rk_pos hg hi hd2] at hlt
        have hjm : j ∈ a ++ i :: r := hp.mem_iff.2 hj
        rcases List.mem_append.1 hjm with h1 | h1
        · exact List.mem_map.2 ⟨j, h1, rfl⟩
        · exfalso
          rcases List.mem_cons.1 h1 with h2 | h2
          · subst h2; omega
          · have h3 := (List.pairwise_append.1 hpw).2.1
            have h4 := (List.pairwise_cons.1 h3).1 j h2
            omega
    rw [List.map_cons, pkL, hfs, Int.toNat_natCast]
    have e : a.map (fun i => (fo d i : Int)) ++ [(fo d i : Int)] = (a ++ [i]).map (fun i => (fo d i : Int)) := by simp
    rw [e]
    refine pick_all hg hd r (a ++ [i]) _ (by rw [List.append_assoc]; exact hp) (by rw [List.append_assoc]; exact hpw) (by simpa using hl) (fun j hj => ?_)
    by_cases hji : j = i
    · subst hji
      rw [List.getElem?_set_self (by omega), hd1]
    · rw [List.getElem?_set_ne (fun e => hji e.symm)]
      rcases List.mem_append.1 hj with h1 | h1
      · exact ho j h1
      · exact absurd (by simpa using h1) hji
/-- Some order picks it. -/
theorem picked {V : List (List Int)} (hg : gd V) {d : List Int} (hd : d.Perm (nums V.length)) (h : ∀ o : List Int, o.Perm (nums V.length) → imB V d o = false) : (ordF V.length (nums V.length)).any (pkB V d) = true := by
  obtain ⟨o, o1, o2⟩ := order_ex (d := fo d) (fun i hi => (fo_at hd hi).2) (fun i j hi hj => fo_inj hd hi hj) (noImp_of hg hd h) V.length (List.range V.length) (by simp) List.nodup_range (fun i hi => List.mem_range.1 hi)
  have hp := pick_all hg hd o [] (List.replicate V.length 0) o1 o2 (by simp) (by simp)
  refine List.any_eq_true.2 ⟨o.map (fun i : Nat => (i : Int)), ordF_all _ _ (nums_len _) _ (o1.map _), ?_⟩
  unfold pkB
  exact decide_eq_true hp
end Go.Proofs.Ytgidfejkfdkflaa

namespace Go.Proofs.Ytgidfejkfdkflaa
open Go Go.Eng
/-- The group that a number's bits tell. -/
def gS (n b : Nat) : List Nat := (List.range n).filter (fun i => b.testBit i)
def grp (n b : Nat) : List Int := (gS n b).map (fun i : Nat => (i : Int))
/-- No group of owners does better by itself. -/
def stB (V : List (List Int)) (d : List Int) : Prop := ∀ b : Nat, 1 ≤ b → b < 2 ^ V.length → ∀ o : List Int, o.Perm (grp V.length b) → gnB V d ((grp V.length b).zip o) false = false
theorem gS_mem {n b i : Nat} : i ∈ gS n b ↔ i < n ∧ b.testBit i = true := by simp [gS]
theorem gS_nodup (n b : Nat) : (gS n b).Nodup := List.nodup_range.filter _
theorem cast_nodup {l : List Nat} (h : l.Nodup) : (l.map (fun i : Nat => (i : Int))).Nodup := map_nodup h (fun x _ y _ e => by omega)
theorem bits_ex (p : Nat → Bool) : ∀ n : Nat, ∃ b : Nat, b < 2 ^ n ∧ ∀ i, i < n → b.testBit i = p i
  | 0 => ⟨0, by simp, fun i hi => by omega⟩
  | n + 1 => by
    obtain ⟨b, h1, h2⟩ := bits_ex p n
    have hb : b.testBit n = false := Nat.testBit_lt_two_pow h1
    rcases hp : p n with _ | _
    · refine ⟨b, by rw [Nat.pow_succ]; omega, fun i hi => ?_⟩
      by_cases e : i = n
      · subst e; rw [hb, hp]
      · exact h2 i (by omega)
    · refine ⟨2 ^ n + b, by rw [Nat.pow_succ]; omega, fun i hi => ?_⟩
      by_cases e : i = n
      · subst e; rw [Nat.testBit_two_pow_add_eq, hb, hp]; rfl
      · rw [Nat.testBit_two_pow_add_gt (by omega)]; exact h2 i (by omega)
theorem dg_fo {n : Nat} {d : List Int} (hd : d.Perm (nums n)) {i : Nat} (hi : i < n) : dg d (i : Int) = (fo d i : Int) := by
  unfold dg
  rw [Int.toNat_natCast, (fo_at hd hi).1]
  rfl
/-- Nobody blocks the deal of the rounds. -/
theorem own_stable {V : List (List Int)} (hg : gd V) {ow : List Int} (ho : ow.Perm (nums V.length)) {t : Nat → Nat} (h : TTC V.length (rk V) (fo ow) t) : stB V ow := by
  intro b _ _ o hp
  rcases hgn : gnB V ow ((grp V.length b).zip o) false with _ | _
  · rfl
  exfalso
  obtain ⟨g1, g2⟩ := (gnB_iff _ _ _ _).1 hgn
  have hgl : (grp V.length b).length = o.length := hp.length_eq.symm
  have hmem : ∀ x ∈ grp V.length b, ∃ i : Nat, x = i ∧ i ∈ gS V.length b := fun x hx => by
    unfold grp at hx
    obtain ⟨i, hi, rfl⟩ := List.mem_map.1 hx
    exact ⟨i, rfl, hi⟩
  have hex : ∀ i : Nat, ∃ p : Nat, i ∈ gS V.length b → ((i : Int), (p : Int)) ∈ (grp V.length b).zip o ∧ p ∈ gS V.length b := fun i => by
    by_cases hi : i ∈ gS V.length b
    · have him : (i : Int) ∈ grp V.length b := List.mem_map.2 ⟨i, hi, rfl⟩
      obtain ⟨k, hk⟩ := List.mem_iff_getElem?.1 him
      have hkl := (List.getElem?_eq_some_iff.1 hk).1
      have hko : o[k]? = some o[k] := List.getElem?_eq_getElem (by omega)
      obtain ⟨p, hp1, hp2⟩ := hmem _ (hp.mem_iff.1 (List.mem_of_getElem? hko))
      refine ⟨p, fun _ => ⟨List.mem_iff_getElem?.2 ⟨k, List.getElem?_zip_eq_some.2 ⟨hk, ?_⟩⟩, hp2⟩⟩
      rw [← hp1]; exact hko
    · exact ⟨0, fun h => absurd h hi⟩
  obtain ⟨g, hgf⟩ := Classical.axiomOfChoice hex
  have hond : o.Nodup := hp.nodup_iff.2 (cast_nodup (gS_nodup _ _))
  have hgnd : (grp V.length b).Nodup := cast_nodup (gS_nodup _ _)
  have huniq : ∀ (l : List Int) (k j : Nat) (x : Int), l.Nodup → l[k]? = some x → l[j]? = some x → k = j := fun l k j x hl hk hj => by
    have hq := List.pairwise_iff_getElem.1 hl
    obtain ⟨a1, a2⟩ := List.getElem?_eq_some_iff.1 hk
    obtain ⟨b1, b2⟩ := List.getElem?_eq_some_iff.1 hj
    rcases Nat.lt_trichotomy k j with h3 | h3 | h3
    · exact absurd (a2.trans b2.symm) (hq k j a1 b1 h3)
    · exact h3
    · exact absurd (b2.trans a2.symm) (hq j k b1 a1 h3)
  have hcore := h.core (rk_RI hg) (S := gS V.length b) (gS_nodup _ _) (fun i hi => (gS_mem.1 hi).1) (g := g) (fun i hi => (hgf i hi).2) (fun i hi j hj e => by
    obtain ⟨k, hk⟩ := List.mem_iff_getElem?.1 (hgf i hi).1
    obtain ⟨m, hm⟩ := List.mem_iff_getElem?.1 (hgf j hj).1
    have hk2 := List.getElem?_zip_eq_some.1 hk
    have hm2 := List.getElem?_zip_eq_some.1 hm
    simp only at hk2 hm2
    rw [← e] at hm2
    have := huniq o k m _ hond hk2.2 hm2.2
    subst this
    have := hk2.1.symm.trans hm2.1
    have := Option.some.inj this
    omega) (fun i hi => by
    have hin := (gS_mem.1 hi).1
    have := g1 _ (hgf i hi).1
    simp only [dg_fo ho hin] at this
    rw [rk_pos hg hin (fo_at ho hin).2, rk_pos hg hin (gS_mem.1 (hgf i hi).2).1] at this
    omega)
  rcases g2 with g2 | ⟨x, hx, g2⟩
  · cases g2
  obtain ⟨k, hk⟩ := List.mem_iff_getElem?.1 hx
  have hk2 := List.getElem?_zip_eq_some.1 hk
  obtain ⟨i, hi1, hi2⟩ := hmem _ (List.mem_of_getElem? hk2.1)
  have hin := (gS_mem.1 hi2).1
  obtain ⟨m, hm⟩ := List.mem_iff_getElem?.1 (hgf i hi2).1
  have hm2 := List.getElem?_zip_eq_some.1 hm
  simp only at hm2
  rw [hi1] at hk2
  have hkm := huniq _ k m _ hgnd hk2.1 hm2.1
  subst hkm
  have hx2 := Option.some.inj (hk2.2.symm.trans hm2.2)
  rw [hi1, hx2, dg_fo ho hin, hcore (t i) i hi2 rfl] at g2
  omega
/-- Every other deal is blocked. -/
theorem other_blocked {V : List (List Int)} (hg : gd V) {ow d : List Int} (ho : ow.Perm (nums V.length)) (hd : d.Perm (nums V.length)) {t : Nat → Nat} (h : TTC V.length (rk V) (fo ow) t) (hne : ow ≠ d) : ¬ stB V d := by
  intro hst
  have hdiff : ∃ i, i < V.length ∧ fo d i ≠ fo ow i := by
    rcases Classical.em (∃ i, i < V.length ∧ fo d i ≠ fo ow i) with h1 | h1
    · exact h1
    exfalso
    refine hne (List.ext_getElem? (fun i => ?_))
    rcases Nat.lt_or_ge i V.length with h2 | h2
    · rw [(fo_at ho h2).1, (fo_at hd h2).1, Classical.byContradiction fun h3 => h1 ⟨i, h2, h3⟩]
    · rw [List.getElem?_eq_none (by rw [ho.length_eq, nums_len]; exact h2), List.getElem?_eq_none (by rw [hd.length_eq, nums_len]; exact h2)]
  obtain ⟨s, he, i, hi, hti, hid⟩ := first_diff (t := t) hdiff
  obtain ⟨o1, o2⟩ := h.other (rk_RI hg) (d := fo d) (fun j hj => (fo_at hd hj).2) (fun j k hj hk => fo_inj hd hj hk) he
  obtain ⟨b, hb, hbit⟩ := bits_ex (fun i => decide (t i = s)) V.length
  have hS : ∀ j, j ∈ gS V.length b ↔ j < V.length ∧ t j = s := fun j => by
    rw [gS_mem]
    constructor
    · rintro ⟨a, c⟩
      rw [hbit j a] at c
      exact ⟨a, by simpa using c⟩
    · rintro ⟨a, c⟩
      exact ⟨a, by rw [hbit j a]; simpa using c⟩
  have hb1 : 1 ≤ b := by
    rcases Nat.eq_zero_or_pos b with e | e
    · exfalso
      have := hbit i hi
      subst e
      simp [hti] at this
    · exact e
  have hp : ((gS V.length b).map (fun j => (fo ow j : Int))).Perm (grp V.length b) := by
    have hperm : ((gS V.length b).map (fo ow)).Perm (gS V.length b) := by
      have hnd : ((gS V.length b).map (fo ow)).Nodup := map_nodup (gS_nodup _ _) (fun x hx y hy => h.inj x y ((hS x).1 hx).1 ((hS y).1 hy).1)
      refine (List.perm_ext_iff_of_nodup hnd (gS_nodup _ _)).2 (fun x => ?_)
      have hmaps : ∀ y ∈ gS V.length b, fo ow y ∈ gS V.length b := fun y hy => by
        obtain ⟨a, c⟩ := (hS y).1 hy
        exact (hS _).2 ⟨h.lt y a, by rw [h.st y a]; exact c⟩
      constructor
      · intro hx
        obtain ⟨y, hy, rfl⟩ := List.mem_map.1 hx
        exact hmaps y hy
      · intro hx
        obtain ⟨y, hy, e⟩ := inj_onto (f := fo ow) (gS_nodup V.length b) hmaps (fun x hx y hy => h.inj x y ((hS x).1 hx).1 ((hS y).1 hy).1) hx
        exact List.mem_map.2 ⟨y, hy, e⟩
    have := hperm.map (fun i : Nat => (i : Int))
    rw [List.map_map] at this
    exact this
  have hno := hst b hb1 hb _ hp
  have hyes : gnB V d ((grp V.length b).zip ((gS V.length b).map (fun j => (fo ow j : Int)))) false = true := by
    have hz : ∀ x, x ∈ (grp V.length b).zip ((gS V.length b).map (fun j => (fo ow j : Int))) → ∃ j, j ∈ gS V.length b ∧ x = ((j : Int), (fo ow j : Int)) := fun x hx => by
      unfold grp at hx
      rw [List.zip_map'] at hx
      obtain ⟨j, hj, rfl⟩ := List.mem_map.1 hx
      exact ⟨j, hj, rfl⟩
    have hz2 : ∀ j, j ∈ gS V.length b → ((j : Int), (fo ow j : Int)) ∈ (grp V.length b).zip ((gS V.length b).map (fun j => (fo ow j : Int))) := fun j hj => by
      unfold grp
      rw [List.zip_map']
      exact List.mem_map.2 ⟨j, hj, rfl⟩
    refine (gnB_iff _ _ _ _).2 ⟨fun x hx => ?_, .inr ⟨_, hz2 i ((hS i).2 ⟨hi, hti⟩), ?_⟩⟩
    · obtain ⟨j, hj, rfl⟩ := hz x hx
      obtain ⟨a, c⟩ := (hS j).1 hj
      have := o1 j a c
      simp only [dg_fo hd a]
      rw [rk_pos hg a (fo_at hd a).2, rk_pos hg a (fo_at ho a).2]
      omega
    · have := o2 i hi hti hid
      simp only [dg_fo hd hi]
      rw [rk_pos hg hi (fo_at hd hi).2, rk_pos hg hi (fo_at ho hi).2]
      omega
  rw [hno] at hyes
  cases hyes
end Go.Proofs.Ytgidfejkfdkflaa

namespace Go.Proofs.Ytgidfejkfdkflaa
open Go Go.Eng
theorem own_willing {V : List (List Int)} (hg : gd V) {ow : List Int} (ho : ow.Perm (nums V.length)) {t : Nat → Nat} (h : TTC V.length (rk V) (fo ow) t) {i : Nat} (hi : i < V.length) : ¬ pos (rw' V i) i < pos (rw' V i) (fo ow i) := by
  have := h.best i i hi hi (Nat.le_refl _)
  rw [rk_pos hg hi hi, rk_pos hg hi (fo_at ho hi).2]
  omega
theorem gd_set {V : List (List Int)} (hg : gd V) {k : Nat} {li : List Int} (hl : isO li V.length) : gd (V.set k li) := by
  refine ⟨by rw [List.length_set]; exact hg.1, fun l h => ?_⟩
  rw [List.length_set]
  rcases List.mem_or_eq_of_mem_set h with h1 | h1
  · exact hg.2 l h1
  · rw [h1]; exact hl
theorem rw_set {V : List (List Int)} {k i : Nat} {li : List Int} (h : i ≠ k) : rw' (V.set k li) (i : Int) = rw' V i := by
  unfold rw'
  rw [Int.toNat_natCast, List.getElem?_set_ne (fun e => h e.symm)]
theorem lie_no {V : List (List Int)} (hg : gd V) {k : Nat} (hk : k < V.length) {li : List Int} (hl : isO li V.length) {ow aw : List Int} (ho : ow.Perm (nums V.length)) (ha : aw.Perm (nums V.length)) {t t' : Nat → Nat} (h : TTC V.length (rk V) (fo ow) t) (h' : TTC V.length (rk (V.set k li)) (fo aw) t') :
    ¬ pos (rw' V k) (fo aw k) < pos (rw' V k) (fo ow k) := by
  have hr' := rk_RI (gd_set hg hl (k := k))
  rw [List.length_set] at hr'
  have := no_lie h h' (rk_RI hg) hr' hk (fun i hi hne => by
    funext p
    unfold rk
    rw [rw_set hne])
  rw [rk_pos hg hk (fo_at ha hk).2, rk_pos hg hk (fo_at ho hk).2]
  omega
/-- The sum of ranks falls where all do as well and one better. -/
theorem sum_fall : ∀ (a b : List Int), a.length = b.length → (∀ (i : Nat) (x y : Int), a[i]? = some x → b[i]? = some y → x ≤ y) → a.sum ≤ b.sum
  | [], [], _, _ => Int.le_refl _
  | x :: a, y :: b, hl, h => by
    have := sum_fall a b (by simpa using hl) (fun i u v hu hv => h (i + 1) u v hu hv)
    have := h 0 x y rfl rfl
    simp only [List.sum_cons]
    omega
theorem sum_fall2 : ∀ (a b : List Int), a.length = b.length → (∀ (i : Nat) (x y : Int), a[i]? = some x → b[i]? = some y → x ≤ y) → (∃ (i : Nat) (x y : Int), a[i]? = some x ∧ b[i]? = some y ∧ x < y) → a.sum < b.sum
  | [], _, _, _, ⟨i, x, y, hx, _, _⟩ => by simp at hx
  | x :: a, [], hl, _, _ => by simp at hl
  | x :: a, y :: b, hl, h, ⟨i, u, v, hu, hv, huv⟩ => by
    have h0 := h 0 x y rfl rfl
    simp only [List.sum_cons]
    cases i with
    | zero =>
      have e1 : x = u := Option.some.inj hu
      have e2 : y = v := Option.some.inj hv
      have := sum_fall a b (by simpa using hl) (fun i u v hu hv => h (i + 1) u v hu hv)
      omega
    | succ i =>
      have := sum_fall2 a b (by simpa using hl) (fun i u v hu hv => h (i + 1) u v hu hv) ⟨i, u, v, hu, hv, huv⟩
      omega
theorem rkL_at {V : List (List Int)} {d : List Int} (hd : d.Perm (nums V.length)) {i : Nat} (hi : i < V.length) : (rkL V d)[i]? = some (pos (rw' V i) (fo d i)) := by
  unfold rkL
  rw [List.getElem?_zipWith, (fo_at hd hi).1, List.getElem?_eq_getElem hi]
  unfold rw'
  rw [Int.toNat_natCast, List.getElem?_eq_getElem hi]
  rfl
theorem rkL_len {V : List (List Int)} {d : List Int} (hd : d.Perm (nums V.length)) : (rkL V d).length = V.length := by
  unfold rkL
  rw [List.length_zipWith, hd.length_eq, nums_len]
  omega
theorem rank_fall {V : List (List Int)} (hg : gd V) {d o : List Int} (hd : d.Perm (nums V.length)) (ho : o.Perm (nums V.length)) (h : imB V d o = true) : (rkL V o).sum < (rkL V d).sum := by
  obtain ⟨h1, i, hi, h2⟩ := (imB_iff hg hd ho).1 h
  have hle : ∀ j, j < V.length → pos (rw' V j) (fo o j) ≤ pos (rw' V j) (fo d j) := fun j hj => by
    rw [rk_pos hg hj (fo_at ho hj).2, rk_pos hg hj (fo_at hd hj).2]
    have := h1 j hj
    omega
  refine sum_fall2 _ _ (by rw [rkL_len hd, rkL_len ho]) (fun j x y hx hy => ?_) ⟨i, _, _, rkL_at ho hi, rkL_at hd hi, ?_⟩
  · have hj : j < V.length := by have := (List.getElem?_eq_some_iff.1 hx).1; rwa [rkL_len ho] at this
    rw [rkL_at ho hj] at hx
    rw [rkL_at hd hj] at hy
    rw [← Option.some.inj hx, ← Option.some.inj hy]
    exact hle j hj
  · rw [rk_pos hg hi (fo_at ho hi).2, rk_pos hg hi (fo_at hd hi).2]
    omega
theorem rank_bd {V : List (List Int)} (hg : gd V) {d : List Int} (hd : d.Perm (nums V.length)) : ∀ x ∈ rkL V d, 0 ≤ x ∧ x ≤ 4 := by
  intro x hx
  obtain ⟨i, hi⟩ := List.mem_iff_getElem?.1 hx
  have hil : i < V.length := by have := (List.getElem?_eq_some_iff.1 hi).1; rwa [rkL_len hd] at this
  rw [rkL_at hd hil] at hi
  rw [← Option.some.inj hi]
  have hrow := row_O hg hil
  obtain ⟨j, h1, h2⟩ := pos_in (hrow.2 _ (fo_at hd hil).2)
  have := (List.getElem?_eq_some_iff.1 h2).1
  have := hrow.1
  have := hg.1.2
  omega
end Go.Proofs.Ytgidfejkfdkflaa

namespace Go.Proofs.Ytgidfejkfdkflaa
open Go Go.Eng
theorem s33 (v : AV) (hc : v.cells? = some [v]) (A : AHeap) : ACalls Try.prog 33 [v] A (.fn 43 [.ptr A.length 0]) (A ++ [.cells true [v]]) := by
  refine acalls hmix Try.func33 (by kernel_rfl) t33 1 rfl (by decide) ?_
  dsimp only [m33]
  simp (maxSteps := 4000000) -implicitDefEqProofs -dsimp (disch := omega) only [↓AW_ops, ↓AW_seq, ↓AW_ret, ↓AOps_nil, ↓AOps_pu, ↓AOps_ha, on_some, extK_app, ↓then_normal, ↓Fin_ret, pval, hval_newv, rd_S, rd_C, put_S, resV, resL, List.replicate_succ, List.replicate_zero, List.set_cons_zero, List.set_cons_succ, List.getElem?_cons_zero, List.getElem?_cons_succ, Option.getD_some, map_c, map_n, Nat.reduceSub, List.cons_append, List.nil_append, hc]
  exact gc_all
/-- A list of truth values in memory. -/
def eb (b : Bool) : List AV := [.bool b]
theorem eb_len (b : Bool) : (eb b).length = 1 := rfl
abbrev LB := Ls 1 eb
theorem s45 {l : List Bool} {w : AV} {A : AHeap} {b : Nat} (hl : LB A w l) (hb : ldA 1 false (.ptr b 0) A = some w) {p : Nat} {t : Bool} (hp : l[p]? = some t) : ACalls Try.prog 45 [I p, .ptr b 0] A (B t) A := by
  refine acalls hmix Try.func45 (by kernel_rfl) t45 2 rfl (by decide) ?_
  have hpl := (List.getElem?_eq_some_iff.1 hp).1
  dsimp only [m45]
  simp (maxSteps := 4000000) -implicitDefEqProofs -dsimp (disch := omega) only [↓AW_ops, ↓AW_seq, ↓AW_ret, ↓AOps_nil, ↓AOps_pu, ↓AOps_ld, on_some, ↓then_normal, ↓Fin_ret, pval, lval, rd_S, rd_C, put_S, resV, resL, partA, eq_self, List.replicate_succ, List.replicate_zero, List.set_cons_zero, List.set_cons_succ, List.getElem?_cons_zero, List.getElem?_cons_succ, List.drop_zero, List.take_succ_cons, List.take_nil, Option.getD_some, List.length_cons, List.length_nil, Nat.reduceSub, Nat.reduceLeDiff, Nat.zero_add, List.cons_append, List.nil_append, if_true, if_false, Bool.false_eq_true, hb, hl.idx hpl, hl.ld0 hp 1 false (by decide), eb]
  exact gc_same rfl
theorem s46 {c : List Int} {w : AV} {A : AHeap} {b : Nat} {i : Int} (hc : L1 A w c) (hl : c.length ≤ 1000000) (hb : ldA 1 false (.ptr b 0) A = some (I i)) : ACalls Try.prog 46 [w, .ptr b 0] A (B (decide (i ∈ c))) A := by
  refine acalls hmix Try.func46 (by kernel_rfl) t46 2 rfl (by decide) ?_
  dsimp only [m46]
  simp (maxSteps := 4000000) -implicitDefEqProofs -dsimp (disch := omega) only [↓AW_ops, ↓AW_seq, ↓AOps_nil, ↓AOps_pu, ↓AOps_ld, ↓AOps_call, on_some, ↓then_normal, pval, lval, rd_S, rd_C, put_S, List.replicate_succ, List.replicate_zero, List.set_cons_zero, List.set_cons_succ, List.getElem?_cons_zero, List.getElem?_cons_succ, Option.getD_some, map_c, map_n, Nat.reduceSub, List.cons_append, List.nil_append, hb]
  refine CallK.of (c_Contains hc hl i) ?_
  simp (maxSteps := 4000000) -implicitDefEqProofs -dsimp (disch := omega) only [↓AW_ret, ↓AOps_nil, ↓AOps_pu, on_some, extK_same, ↓then_normal, ↓Fin_ret, pval, rd_S, put_S, resV, resL, List.replicate_succ, List.replicate_zero, List.set_cons_zero, List.set_cons_succ, List.getElem?_cons_zero, List.getElem?_cons_succ, Option.getD_some, Nat.reduceSub, List.cons_append, List.nil_append]
  exact gc_same rfl
end Go.Proofs.Ytgidfejkfdkflaa

namespace Go.Proofs.Ytgidfejkfdkflaa
open Go Go.Eng
def tab3 : List (Nat × MFun) := [(37, m37)]
theorem tabOK3 : TabOK Try.prog tab3 := .cons Try.func37 (by kernel_rfl) t37 <| .nil
def hasOk (b i : Nat) : Bool := match runF tab3 300 6 37 [.int .i64 (b : Int), .int .i64 (i : Int)] [] with
  | some (.bool t, _) => t == b.testBit i
  | _ => false
set_option maxRecDepth 100000 in
theorem has_run : ((List.range 32).all fun b => (List.range 5).all fun i => hasOk b i) = true := by kernel_rfl
theorem s37 (b i : Nat) (hb : b < 32) (hi : i < 5) (A : AHeap) : ACalls Try.prog 37 [I b, I i] A (B (b.testBit i)) A := by
  have h := List.all_eq_true.1 (List.all_eq_true.1 has_run b (List.mem_range.2 hb)) i (List.mem_range.2 hi)
  unfold hasOk at h
  split at h
  · rename_i t H hr
    have : t = b.testBit i := by simpa using h
    subst this
    exact (runF_ok hmix tabOK3 300 6 37 _ [] _ _ hr).lift (by simp [flat]) rfl A
  · cases h
end Go.Proofs.Ytgidfejkfdkflaa

namespace Go.Proofs.Ytgidfejkfdkflaa
open Go Go.Eng
/-- The first place of a truth value, or -1. -/
theorem s48 {l : List Bool} {w : AV} {A : AHeap} (hl : LB A w l) (hn : l.length ≤ 1000000) : ∃ k : Int, ACalls Try.prog 48 [w, B true] A (I k) A ∧ (0 ≤ k ↔ true ∈ l) := by
  by_cases hm : true ∈ l
  · obtain ⟨i, hi, hlt⟩ : ∃ i : Nat, l[i]? = some true ∧ ∀ j, j < i → l[j]? = some false := by
      clear hn hl
      induction l with
      | nil => simp at hm
      | cons b l ih =>
        cases b with
        | true => exact ⟨0, rfl, fun j hj => by omega⟩
        | false =>
          obtain ⟨i, h1, h2⟩ := ih (by simpa using hm)
          refine ⟨i + 1, h1, fun j hj => ?_⟩
          cases j with
          | zero => rfl
          | succ j => exact h2 j (by omega)
    refine ⟨i, ?_, by simp [hm]⟩
    have hil := (List.getElem?_eq_some_iff.1 hi).1
    refine acalls hmix Try.func48 (by kernel_rfl) t48 2 rfl (by decide) ?_
    dsimp only [m48]
    simp (maxSteps := 4000000) -implicitDefEqProofs -dsimp (disch := omega) only [↓AW_ops, ↓AW_seq, ↓AW_block, ↓AOps_nil, ↓AOps_pu, on_some, ↓then_normal, pval, rd_S, rd_C, put_S, ↓AW_toLoop, List.replicate_succ, List.replicate_zero, List.set_cons_zero, List.set_cons_succ, List.getElem?_cons_zero, List.getElem?_cons_succ, Option.getD_some, Nat.reduceSub, List.cons_append, List.nil_append, hl.len]
    refine LoopK.by 19 (fun k : Nat => k ≤ i) (fun k => [(0, w), (1, B true), (7, I l.length), (8, I k)]) (fun _ => A) (fun k => l.length - k) 0 (Nat.zero_le _) rfl (by simp [Has, rd_s]) rfl ?_
    intro k hk
    have hkl : k < l.length := by omega
    have hkl' : (k : Int) < l.length := by omega
    by_cases e : k = i
    · subst e
      simp (maxSteps := 4000000) -implicitDefEqProofs -dsimp (disch := omega) only [↓AW_skip, ↓AW_ops, ↓AW_seq, ↓AW_cond, ↓AW_block, ↓AW_ret, ↓AOps_nil, ↓AOps_pu, ↓AOps_ld, on_some, condB_t, ↓then_normal, ↓then_ret, ↓inBlock_ret, ↓Fin_ret, pval, lval, rd_S, put_S, resV, resL, partA, beq_self_eq_true, eq_self, mk, List.foldl_cons, List.foldl_nil, List.replicate_succ, List.replicate_zero, List.set_cons_zero, List.set_cons_succ, List.getElem?_cons_zero, List.getElem?_cons_succ, List.drop_zero, List.take_succ_cons, List.take_nil, Option.getD_some, List.length_cons, List.length_nil, Nat.reduceLeDiff, Nat.zero_add, bin_lss, if_true, if_false, Bool.false_eq_true, Bool.not_true, decide_true, hkl', hl.idx hkl, hl.ld0 hi 1 false (by decide), eb, beq_self_eq_true]
      exact gc_same rfl
    · have hf := hlt k (by omega)
      simp (maxSteps := 4000000) -implicitDefEqProofs -dsimp (disch := omega) only [↓AW_skip, ↓AW_ops, ↓AW_seq, ↓AW_cond, ↓AW_block, ↓AOps_nil, ↓AOps_pu, ↓AOps_ld, on_some, condB_t, condB_f, ↓then_normal, ↓inBlock_normal, pval, lval, rd_S, rd_C, put_S, partA, eq_self, mk, List.foldl_cons, List.foldl_nil, List.replicate_succ, List.replicate_zero, List.set_cons_zero, List.set_cons_succ, List.getElem?_cons_zero, List.getElem?_cons_succ, List.drop_zero, List.take_succ_cons, List.take_nil, Option.getD_some, List.length_cons, List.length_nil, Nat.reduceAdd, Nat.reduceLeDiff, Nat.zero_add, bin_add, bin_lss, w64, if_true, if_false, Bool.false_eq_true, Bool.not_false, decide_true, true_and, hkl', hl.idx hkl, hl.ld0 hf 1 false (by decide), eb, show (true == false) = false from rfl]
      exact ⟨k + 1, by omega, by simp [Has, rd_s], by omega⟩
  · refine ⟨-1, ?_, by simp [hm]⟩
    refine acalls hmix Try.func48 (by kernel_rfl) t48 2 rfl (by decide) ?_
    dsimp only [m48]
    simp (maxSteps := 4000000) -implicitDefEqProofs -dsimp (disch := omega) only [↓AW_ops, ↓AW_seq, ↓AW_block, ↓AOps_nil, ↓AOps_pu, on_some, ↓then_normal, pval, rd_S, rd_C, put_S, ↓AW_toLoop, List.replicate_succ, List.replicate_zero, List.set_cons_zero, List.set_cons_succ, List.getElem?_cons_zero, List.getElem?_cons_succ, Option.getD_some, Nat.reduceSub, List.cons_append, List.nil_append, hl.len]
    refine LoopK.by 19 (fun k : Nat => k ≤ l.length) (fun k => [(0, w), (1, B true), (7, I l.length), (8, I k)]) (fun _ => A) (fun k => l.length - k) 0 (Nat.zero_le _) rfl (by simp [Has, rd_s]) rfl ?_
    intro k hk
    by_cases hkl : k < l.length
    · have hkl' : (k : Int) < l.length := by omega
      have hf : l[k]? = some false := by
        have h1 : l[k]? = some l[k] := List.getElem?_eq_getElem hkl
        rcases h2 : l[k] with _ | _
        · rw [h1, h2]
        · exact absurd (h2 ▸ List.getElem_mem hkl) hm
      simp (maxSteps := 4000000) -implicitDefEqProofs -dsimp (disch := omega) only [↓AW_skip, ↓AW_ops, ↓AW_seq, ↓AW_cond, ↓AW_block, ↓AOps_nil, ↓AOps_pu, ↓AOps_ld, on_some, condB_t, condB_f, ↓then_normal, ↓inBlock_normal, pval, lval, rd_S, rd_C, put_S, partA, eq_self, mk, List.foldl_cons, List.foldl_nil, List.replicate_succ, List.replicate_zero, List.set_cons_zero, List.set_cons_succ, List.getElem?_cons_zero, List.getElem?_cons_succ, List.drop_zero, List.take_succ_cons, List.take_nil, Option.getD_some, List.length_cons, List.length_nil, Nat.reduceAdd, Nat.reduceLeDiff, Nat.zero_add, bin_add, bin_lss, w64, if_true, if_false, Bool.false_eq_true, Bool.not_false, decide_true, true_and, hkl', hl.idx hkl, hl.ld0 hf 1 false (by decide), eb, show (true == false) = false from rfl]
      exact ⟨k + 1, by omega, by simp [Has, rd_s], by omega⟩
    · have hkl' : ¬ ((k : Int) < l.length) := by omega
      simp (maxSteps := 4000000) -implicitDefEqProofs -dsimp (disch := omega) only [↓AW_ops, ↓AW_seq, ↓AW_cond, ↓AW_exit, ↓AW_ret, ↓AOps_nil, ↓AOps_pu, on_some, condB_f, ↓then_normal, ↓then_exit, ↓inBlock_exit, ↓Fin_ret, pval, rd_S, rd_C, put_S, resV, resL, eq_self, mk, List.foldl_cons, List.foldl_nil, List.replicate_succ, List.replicate_zero, List.set_cons_zero, List.set_cons_succ, List.getElem?_cons_zero, List.getElem?_cons_succ, Option.getD_some, bin_lss, if_true, decide_false, Int.reduceNeg, hkl']
      exact gc_same rfl
theorem s44 {l : List Bool} {w : AV} {A : AHeap} (hl : LB A w l) (hn : l.length ≤ 1000000) : ACalls Try.prog 44 [w, B true] A (B (decide (true ∈ l))) A := by
  obtain ⟨k, hc, hk⟩ := s48 hl hn
  refine acalls hmix Try.func44 (by kernel_rfl) t44 2 rfl (by decide) ?_
  dsimp only [m44]
  simp (maxSteps := 4000000) -implicitDefEqProofs -dsimp (disch := omega) only [↓AW_ops, ↓AW_seq, ↓AOps_nil, ↓AOps_pu, ↓AOps_call, on_some, ↓then_normal, pval, rd_S, rd_C, put_S, List.replicate_succ, List.replicate_zero, List.set_cons_zero, List.set_cons_succ, List.getElem?_cons_zero, List.getElem?_cons_succ, Option.getD_some, map_c, map_n, Nat.reduceSub, List.cons_append, List.nil_append]
  refine CallK.of hc ?_
  simp (maxSteps := 4000000) -implicitDefEqProofs -dsimp (disch := omega) only [↓AW_ret, ↓AOps_nil, ↓AOps_pu, on_some, extK_same, ↓then_normal, ↓Fin_ret, pval, rd_S, rd_C, put_S, resV, resL, List.replicate_succ, List.replicate_zero, List.set_cons_zero, List.set_cons_succ, List.getElem?_cons_zero, List.getElem?_cons_succ, Option.getD_some, Nat.reduceSub, List.cons_append, List.nil_append, bin_geq]
  refine gc_same ?_
  congr 1
  rw [Bool.eq_iff_iff, decide_eq_true_iff, decide_eq_true_iff]
  exact hk
end Go.Proofs.Ytgidfejkfdkflaa

namespace Go.Proofs.Ytgidfejkfdkflaa
open Go Go.Eng
/-- The members of a group, given by a method of a value. -/
theorem s36b {f : FuncId} {xs : List AV} {A : AHeap} (n : Nat) (hn : n ≤ 1000) (g : Nat → Bool) (hg : ∀ (i : Nat) (H : AHeap), i < n → A <+: H → ACalls Try.prog f (xs ++ [I i]) H (B (g i)) H) : ACalls Try.prog 36 [I n, .bm f xs] A (outV 1 A (((List.range n).filter g).map (fun i : Nat => (i : Int))).length) (outH A ((((List.range n).filter g).map (fun i : Nat => (i : Int))).flatMap e1) (((List.range n).filter g).map (fun i : Nat => (i : Int))).length) := by
  refine acalls hmix Try.func36 (by kernel_rfl) t36 2 rfl (by decide) ?_
  dsimp only [m36]
  simp (maxSteps := 4000000) -implicitDefEqProofs -dsimp (disch := omega) only [↓AW_ops, ↓AW_seq, ↓AW_block, ↓AOps_nil, ↓AOps_pu, on_some, ↓then_normal, pval, rd_S, rd_C, put_S, ↓AW_toLoop, List.replicate_succ, List.replicate_zero, List.set_cons_zero, List.set_cons_succ, List.getElem?_cons_zero, Option.getD_some, Nat.reduceSub, List.cons_append, List.nil_append]
  refine LoopK.by 20 (fun x : Nat × AV × AHeap => x.1 ≤ n ∧ AccL 1 e1 A x.2.2 x.2.1 (((List.range x.1).filter g).map (fun i : Nat => (i : Int)))) (fun x => [(1, .bm f xs), (5, x.2.1), (7, I n), (8, I x.1)]) (fun x => x.2.2) (fun x => n - x.1) (0, .nilS, A) ⟨by simp only; omega, AccL.nil (List.prefix_refl _)⟩ rfl (by simp [Has, rd_s]) rfl ?_
  rintro ⟨i, y, H⟩ ⟨hi, hy⟩
  simp only at hi hy
  by_cases hlt : i < n
  · have hlt' : (i : Int) < n := by omega
    simp (maxSteps := 4000000) -implicitDefEqProofs -dsimp (disch := omega) only [↓AW_skip, ↓AW_ops, ↓AW_seq, ↓AW_cond, ↓AW_block, ↓AOps_nil, ↓AOps_pu, ↓AOps_callv, on_some, condB_t, ↓then_normal, pval, rd_S, put_S, mk, List.foldl_cons, List.foldl_nil, List.replicate_succ, List.replicate_zero, List.set_cons_zero, List.set_cons_succ, List.getElem?_cons_zero, List.getElem?_cons_succ, Option.getD_some, map_c, map_n, bin_lss, decide_true, CallF_bm, hlt']
    refine CallK.of (hg i H hlt hy.pre) ?_
    have hll : ((List.range i).filter g).length ≤ i := by
      have := List.length_filter_le g (List.range i)
      simpa using this
    by_cases h : g i = true
    · obtain ⟨v3, H3, happ, h3⟩ := hy.push e1_len (i : Int) (by rw [List.length_map]; simp [lim]; omega)
      simp only [e1] at happ
      simp (maxSteps := 4000000) -implicitDefEqProofs -dsimp (disch := omega) only [↓AW_ops, ↓AW_cond, ↓AOps_nil, ↓AOps_pu, ↓AOps_ha, on_some, extK_false, extK_app, extK_same, condB_t, ↓then_normal, ↓inBlock_normal, pval, hval_blds, hval_app, rd_S, rd_C, put_S, cells_int, splice, fillA, repl, eq_self, mk, List.foldl_cons, List.foldl_nil, List.replicate_succ, List.replicate_zero, List.set_cons_zero, List.set_cons_succ, List.getElem?_cons_zero, List.getElem?_cons_succ, List.drop_succ_cons, List.drop_nil, List.take_zero, Option.getD_some, map_c, map_n, List.length_cons, List.length_nil, Nat.reduceAdd, Nat.reduceLeDiff, Nat.zero_add, List.nil_append, List.append_nil, bin_add, w64, if_true, true_and, and_true, h, happ]
      refine ⟨(i + 1, v3, H3), ⟨hlt, ?_⟩, by simp [Has, rd_s], rfl, by simp only; omega⟩
      simp only
      rw [List.range_succ, List.filter_append, List.map_append]
      simpa [h] using h3
    · have h : g i = false := by simpa using h
      simp (maxSteps := 4000000) -implicitDefEqProofs -dsimp (disch := omega) only [↓AW_skip, ↓AW_ops, ↓AW_cond, ↓AOps_nil, ↓AOps_pu, on_some, extK_same, condB_f, ↓then_normal, ↓inBlock_normal, pval, rd_S, rd_C, put_S, eq_self, mk, List.foldl_cons, List.foldl_nil, List.replicate_succ, List.replicate_zero, List.set_cons_zero, List.set_cons_succ, List.getElem?_cons_zero, List.getElem?_cons_succ, Option.getD_some, List.length_cons, List.length_nil, Nat.reduceAdd, Nat.zero_add, bin_add, w64, true_and, h]
      refine ⟨(i + 1, y, H), ⟨hlt, ?_⟩, by simp [Has, rd_s], rfl, by simp only; omega⟩
      simp only
      rw [List.range_succ, List.filter_append, List.map_append]
      simpa [h] using hy
  · have hlt' : ¬ ((i : Int) < n) := by omega
    have hin : i = n := by omega
    subst hin
    simp (maxSteps := 4000000) -implicitDefEqProofs -dsimp (disch := omega) only [↓AW_ops, ↓AW_seq, ↓AW_cond, ↓AW_exit, ↓AW_ret, ↓AOps_nil, ↓AOps_pu, on_some, condB_f, ↓then_normal, ↓then_exit, ↓inBlock_exit, ↓Fin_ret, pval, rd_S, put_S, resV, resL, eq_self, mk, List.foldl_cons, List.foldl_nil, List.replicate_succ, List.replicate_zero, List.set_cons_zero, List.set_cons_succ, List.getElem?_cons_zero, List.getElem?_cons_succ, Option.getD_some, bin_lss, if_true, decide_false, hlt']
    exact hy.gc flat_e1
theorem shl_1 {n : Nat} (h : n ≤ 5) : binI .shl (I 1) (I n) = some (I ((2 ^ n : Nat) : Int)) := by
  have h6 : n = 0 ∨ n = 1 ∨ n = 2 ∨ n = 3 ∨ n = 4 ∨ n = 5 := by omega
  rcases h6 with rfl | rfl | rfl | rfl | rfl | rfl <;> rfl
set_option maxHeartbeats 4000000 in
theorem s24 {ws : List (AV × List Int)} {v u : AV} {d : List Int} {A : AHeap} (hV : LL A v ws) (hs : Sz ws) (hd : L1 A u d) (h1 : 1 ≤ ws.length) (h5 : ws.length ≤ 5) (hdl : d.length = ws.length) :
    ∃ r H', ACalls Try.prog 24 [v, u] A r H' ∧ A <+: H' ∧ ∃ y z b, r = .tuple [y, z, B b] ∧ (b = false ↔ stB (lists ws) d) := by
  refine acallsR hmix Try.func24 (by kernel_rfl) t24 _ 2 rfl (by decide) ?_
  have hll : (lists ws).length = ws.length := by simp
  have hA0 : 0 < A.length := hV.pos (by omega)
  have hsh := shl_1 h5
  have hN : 2 ^ ws.length ≤ 32 := by
    have : 2 ^ ws.length ≤ 2 ^ 5 := Nat.pow_le_pow_right (by omega) h5
    omega
  have hN1 : 1 ≤ 2 ^ ws.length := Nat.one_le_two_pow
  obtain ⟨N, hNe⟩ : ∃ N, 2 ^ ws.length = N := ⟨_, rfl⟩
  rw [hNe] at hsh hN hN1
  dsimp only [m24]
  simp (maxSteps := 4000000) -implicitDefEqProofs -dsimp (disch := omega) only [↓AW_ops, ↓AW_seq, ↓AW_block, ↓AOps_nil, ↓AOps_pu, on_some, ↓then_normal, pval, rd_C, put_S, ↓AW_toLoop, List.replicate_succ, List.replicate_zero, List.set_cons_zero, List.set_cons_succ, Nat.reduceSub, List.cons_append, List.nil_append]
  refine LoopK.by 38 (fun x : Nat × AHeap => (1 ≤ x.1 ∧ x.1 ≤ N) ∧ A <+: x.2 ∧ ∀ b : Nat, 1 ≤ b → b < x.1 → ∀ o : List Int, o.Perm (grp ws.length b) → gnB (lists ws) d ((grp ws.length b).zip o) false = false) (fun x => [(0, v), (1, u), (7, I x.1)]) (fun x => x.2) (fun x => N - x.1) (1, A) ⟨⟨by simp only; omega, by simp only; omega⟩, List.prefix_refl _, by simp only; intro b h1 h2; omega⟩ rfl (by simp [Has, rd_s]) rfl ?_
  rintro ⟨b, H⟩ ⟨⟨hb1, hb2⟩, hp, he⟩
  simp only at hb1 hb2 hp he
  have hV1 := hV.mono hp
  by_cases hlt : b < N
  case neg =>
    have hlt' : ¬ ((b : Int) < N) := by omega
    simp (maxSteps := 4000000) -implicitDefEqProofs -dsimp (disch := omega) only [↓AW_ops, ↓AW_seq, ↓AW_cond, ↓AW_exit, ↓AW_ret, ↓AOps_nil, ↓AOps_pu, on_some, condB_f, ↓then_normal, ↓then_exit, ↓inBlock_exit, ↓FinR_ret, pval, rd_S, rd_C, put_S, resV, resL, eq_self, mk, List.foldl_cons, List.foldl_nil, List.replicate_succ, List.replicate_zero, List.set_cons_zero, List.set_cons_succ, List.getElem?_cons_zero, List.getElem?_cons_succ, Option.getD_some, bin_lss, if_true, decide_false, hV1.ls.len, hsh, hlt']
    refine ⟨_, _, gc_all, hp, .nilS, .nilS, false, rfl, fun _ => ?_, fun _ => rfl⟩
    intro c hc1 hc2 o ho
    rw [hll] at hc2 ho ⊢
    exact he c hc1 (by omega) o ho
  have hlt' : (b : Int) < N := by omega
  have hgl : (grp ws.length b).length ≤ ws.length := by
    have := List.length_filter_le (fun i => b.testBit i) (List.range ws.length)
    unfold grp gS
    rw [List.length_map]
    simpa using this
  have c36 := s36b (f := 37) (xs := [I b]) (A := H) ws.length (by omega) (fun i => b.testBit i) (fun i H1 hi _ => s37 b i (by omega) (by omega) H1)
  have eg : ((List.range ws.length).filter (fun i => b.testBit i)).map (fun i : Nat => (i : Int)) = grp ws.length b := rfl
  rw [eg] at c36
  have p1 := pre_out H ((grp ws.length b).flatMap e1) (grp ws.length b).length
  have q1 := Ls_out H e1_len (grp ws.length b)
  generalize outV 1 H (grp ws.length b).length = v1 at *
  generalize outH H ((grp ws.length b).flatMap e1) (grp ws.length b).length = A1 at *
  obtain ⟨r2, A2, c27, ws2, n2, w2⟩ := s27 (grp ws.length b).length (grp ws.length b) v1 A1 rfl (by omega) (by have := p1.length_le; have := hp.length_le; omega) q1
  simp (maxSteps := 4000000) -implicitDefEqProofs -dsimp (disch := omega) only [↓AW_skip, ↓AW_ops, ↓AW_seq, ↓AW_cond, ↓AW_block, ↓AOps_nil, ↓AOps_pu, ↓AOps_call, on_some, condB_t, ↓then_normal, pval, rd_S, rd_C, put_S, mk, List.foldl_cons, List.foldl_nil, List.replicate_succ, List.replicate_zero, List.set_cons_zero, List.set_cons_succ, List.getElem?_cons_zero, List.getElem?_cons_succ, Option.getD_some, map_c, map_n, bin_lss, decide_true, hV1.ls.len, hsh, hlt']
  refine CallK.of c36 ?_
  simp (maxSteps := 4000000) -implicitDefEqProofs -dsimp (disch := omega) only [↓AW_ops, ↓AW_seq, ↓AOps_nil, ↓AOps_pu, ↓AOps_call, on_some, extK_false, ↓then_normal, pval, rd_S, put_S, mk, List.foldl_cons, List.foldl_nil, List.replicate_succ, List.replicate_zero, List.set_cons_zero, List.set_cons_succ, List.getElem?_cons_zero, List.getElem?_cons_succ, Option.getD_some, map_c, map_n]
  refine CallK.of c27 ?_
  have p2 := hp.trans (p1.trans n2.acc.1)
  have hV2 := hV.mono p2
  have hd2 := hd.mono p2
  have q2 := q1.mono n2.acc.1
  have hLL := n2.ll
  have hcnt : ws2.length ≤ 3125 := by
    have := ordF_cnt (grp ws.length b).length (grp ws.length b) rfl (by omega)
    rw [← w2, List.length_map] at this
    have h3 : 5 ^ (grp ws.length b).length ≤ 5 ^ 5 := Nat.pow_le_pow_right (by omega) (by omega)
    omega
  have hgin : ∀ i ∈ grp ws.length b, 0 ≤ i ∧ i < ws.length := fun i hi => by
    unfold grp at hi
    obtain ⟨j, hj, rfl⟩ := List.mem_map.1 hi
    have := (gS_mem.1 hj).1
    omega
  simp (maxSteps := 4000000) -implicitDefEqProofs -dsimp (disch := omega) only [↓AW_block, ↓AOps_nil, ↓AOps_pu, on_some, extK_false, ↓then_normal, pval, rd_S, rd_C, put_S, ↓AW_toLoop, mk, List.foldl_cons, List.foldl_nil, List.replicate_succ, List.replicate_zero, List.set_cons_zero, List.set_cons_succ, List.getElem?_cons_zero, List.getElem?_cons_succ, Option.getD_some, hLL.ls.len]
  refine LoopK.by 38 (fun k : Nat => k ≤ ws2.length ∧ ∀ x ∈ ws2.take k, gnB (lists ws) d ((grp ws.length b).zip x.2) false = false) (fun k => [(0, v), (1, u), (7, I b), (8, v1), (24, r2), (25, I ws2.length), (26, I k)]) (fun _ => A2) (fun k => ws2.length - k) 0 ⟨Nat.zero_le _, by simp⟩ rfl (by simp [Has, rd_s]) rfl ?_
  rintro k ⟨hk, hf⟩
  by_cases hlt2 : k < ws2.length
  · obtain ⟨w, hz⟩ : ∃ w, ws2[k]? = some w := ⟨_, List.getElem?_eq_getElem hlt2⟩
    have hlt2' : (k : Int) < ws2.length := by omega
    have hwm := List.mem_of_getElem? hz
    have hperm : w.2.Perm (grp ws.length b) := ordF_len _ _ rfl _ (by rw [← w2]; exact mem_lists hwm)
    simp (maxSteps := 4000000) -implicitDefEqProofs -dsimp (disch := omega) only [↓AW_skip, ↓AW_ops, ↓AW_seq, ↓AW_cond, ↓AW_block, ↓AOps_nil, ↓AOps_pu, ↓AOps_ld, ↓AOps_call, on_some, condB_t, ↓then_normal, pval, lval, rd_S, put_S, partA, eq_self, mk, List.foldl_cons, List.foldl_nil, List.replicate_succ, List.replicate_zero, List.set_cons_zero, List.set_cons_succ, List.getElem?_cons_zero, List.getElem?_cons_succ, List.drop_zero, List.take_succ_cons, List.take_nil, Option.getD_some, map_c, map_n, List.length_cons, List.length_nil, Nat.reduceLeDiff, Nat.zero_add, bin_lss, if_true, if_false, Bool.false_eq_true, decide_true, hlt2', hLL.ls.idx hlt2, hLL.ls.ld0 hz 1 false (by decide), e0]
    refine CallK.of (s38 hV2 hs hd2 q2 (hLL.inn w hwm) (by rw [hperm.length_eq]) (by omega) hdl hgin) ?_
    by_cases h : gnB (lists ws) d ((grp ws.length b).zip w.2) false = true
    · simp (maxSteps := 4000000) -implicitDefEqProofs -dsimp (disch := omega) only [↓AW_ops, ↓AW_seq, ↓AW_cond, ↓AW_ret, ↓AOps_nil, ↓AOps_pu, on_some, extK_same, condB_t, ↓then_normal, ↓then_ret, ↓inBlock_ret, ↓FinR_ret, pval, rd_S, rd_C, put_S, resV, resL, mk, List.foldl_cons, List.foldl_nil, List.replicate_succ, List.replicate_zero, List.set_cons_zero, List.set_cons_succ, List.getElem?_cons_zero, List.getElem?_cons_succ, Option.getD_some, h]
      refine ⟨_, _, gc_all, p2, v1, w.1, true, rfl, (fun e => by cases e), fun hst => ?_⟩
      have := hst b hb1 (by rw [hll]; omega) w.2 (by rw [hll]; exact hperm)
      rw [hll, h] at this
      exact this
    · have h : gnB (lists ws) d ((grp ws.length b).zip w.2) false = false := by simpa using h
      simp (maxSteps := 4000000) -implicitDefEqProofs -dsimp (disch := omega) only [↓AW_skip, ↓AW_ops, ↓AW_cond, ↓AOps_nil, ↓AOps_pu, on_some, extK_same, condB_f, ↓then_normal, ↓inBlock_normal, pval, rd_S, rd_C, put_S, eq_self, mk, List.foldl_cons, List.foldl_nil, List.replicate_succ, List.replicate_zero, List.set_cons_zero, List.set_cons_succ, List.getElem?_cons_zero, List.getElem?_cons_succ, Option.getD_some, List.length_cons, List.length_nil, Nat.reduceAdd, Nat.zero_add, bin_add, w64, true_and, h]
      refine ⟨k + 1, ⟨hlt2, fun x hx => ?_⟩, by simp [Has, rd_s], by omega⟩
      rcases (take_mem hz).1 hx with hx | rfl
      · exact hf x hx
      · exact h
  · have hlt2' : ¬ ((k : Int) < ws2.length) := by omega
    rw [List.take_of_length_le (by omega)] at hf
    simp (maxSteps := 4000000) -implicitDefEqProofs -dsimp (disch := omega) only [↓AW_ops, ↓AW_seq, ↓AW_cond, ↓AW_exit, ↓AW_ret, ↓AOps_nil, ↓AOps_pu, on_some, condB_f, ↓then_normal, ↓then_exit, ↓inBlock_normal, ↓inBlock_exit, ↓FinR_ret, pval, rd_S, rd_C, put_S, resV, resL, eq_self, mk, List.foldl_cons, List.foldl_nil, List.replicate_succ, List.replicate_zero, List.set_cons_zero, List.set_cons_succ, List.getElem?_cons_zero, List.getElem?_cons_succ, Option.getD_some, List.length_cons, List.length_nil, Nat.reduceAdd, Nat.reduceEqDiff, Nat.zero_add, bin_add, bin_lss, w64, if_true, if_false, decide_false, true_and, reduceCtorEq, hlt2']
    refine ⟨(b + 1, A2), ⟨⟨by simp only; omega, hlt⟩, p2, fun c hc1 hc2 o ho => ?_⟩, by simp [Has, rd_s], rfl, by simp only; omega⟩
    simp only at hc2
    by_cases e : c = b
    · subst e
      have := ordF_all _ _ rfl o ho
      rw [← w2] at this
      obtain ⟨x, hx, rfl⟩ := List.mem_map.1 this
      exact hf x hx
    · exact he c hc1 (by omega) o ho
noncomputable instance (V : List (List Int)) (d : List Int) : Decidable (stB V d) := Classical.propDecidable _
theorem s9 {ws : List (AV × List Int)} {v u : AV} {d : List Int} {A : AHeap} (hV : LL A v ws) (hs : Sz ws) (hd : L1 A u d) (hg : gd (lists ws)) (ho : isO d ws.length) :
    ACalls Try.prog 9 [v, u] A (.tuple [B (decide (stB (lists ws) d)), I 0]) A := by
  have hll : (lists ws).length = ws.length := by simp
  have hn := hg.1
  rw [hll] at hn
  have hE : oE (lists ws) d = 0 := by rw [oE, if_pos ⟨hg, by rw [hll]; exact ho⟩]
  obtain ⟨r, H, hc, hp, y, z, b, rfl, hb⟩ := s24 hV hs hd hn.1 hn.2 ho.1
  refine acalls hmix Try.func9 (by kernel_rfl) t9 2 rfl (by decide) ?_
  dsimp only [m9]
  simp (maxSteps := 4000000) -implicitDefEqProofs -dsimp (disch := omega) only [↓AW_ops, ↓AW_seq, ↓AOps_nil, ↓AOps_pu, ↓AOps_call, on_some, ↓then_normal, pval, rd_S, rd_C, put_S, List.replicate_succ, List.replicate_zero, List.set_cons_zero, List.set_cons_succ, List.getElem?_cons_zero, List.getElem?_cons_succ, Option.getD_some, map_c, map_n, Nat.reduceSub, List.cons_append, List.nil_append]
  refine CallK.of (s17 hV hs hd (by have := ho.1; omega)) ?_
  simp (maxSteps := 4000000) -implicitDefEqProofs -dsimp (disch := omega) only [↓AW_skip, ↓AW_ops, ↓AW_seq, ↓AW_cond, ↓AOps_nil, ↓AOps_pu, ↓AOps_call, on_some, extK_same, condB_f, ↓then_normal, pval, rd_S, rd_C, put_S, eq_self, List.replicate_succ, List.replicate_zero, List.set_cons_zero, List.set_cons_succ, List.getElem?_cons_zero, List.getElem?_cons_succ, Option.getD_some, map_c, map_n, Nat.reduceSub, List.cons_append, List.nil_append, bin_neq, decide_false, not_true_eq_false, hE]
  refine CallK.of hc ?_
  simp (maxSteps := 4000000) -implicitDefEqProofs -dsimp (disch := omega) only [↓AW_ops, ↓AW_seq, ↓AW_ret, ↓AOps_nil, ↓AOps_pu, on_some, extK_false, ↓then_normal, ↓Fin_ret, pval, rd_S, rd_C, put_S, resV, resL, List.replicate_succ, List.replicate_zero, List.set_cons_zero, List.set_cons_succ, List.getElem?_cons_zero, List.getElem?_cons_succ, Option.getD_some, Nat.reduceSub, List.cons_append, List.nil_append]
  refine gc_val hp ?_
  have : (!b) = decide (stB (lists ws) d) := by
    cases b with
    | false => rw [decide_eq_true (hb.1 rfl)]; rfl
    | true => rw [decide_eq_false (fun e => by have := hb.2 e; cases this)]; rfl
  rw [this]
  rfl
end Go.Proofs.Ytgidfejkfdkflaa

namespace Go.Eng
open Go
section
variable {P : Program}
theorem rd_setne {S : List AV} {i j : Nat} {q : AV} (h : j ≠ i) : rd (S.set i q) (.s j) = rd S (.s j) := by
  show ((S.set i q)[j]?).getD .junk = (S[j]?).getD .junk
  rw [List.getElem?_set_ne (Ne.symm h)]
theorem putS_setne {S : List AV} {i : Nat} {q v : AV} {w : Option Nat} (h : w ≠ some i) : putS (S.set i q) w v = (putS S w v).set i q := by
  cases w with
  | none => rfl
  | some d =>
    show (S.set i q).set d v = (S.set d v).set i q
    rw [List.set_comm _ _ (by rintro rfl; exact h rfl)]
theorem forget_set {S S0 : List AV} (h : Forget S S0) (i : Nat) (q : AV) : Forget (S.set i q) (S0.set i q) := by
  refine ⟨by simp [h.1], fun j => ?_⟩
  by_cases e : j = i
  · subst e
    by_cases hl : j < S.length
    · right
      show ((S0.set j q)[j]?).getD .junk = ((S.set j q)[j]?).getD .junk
      rw [List.getElem?_set_self hl, List.getElem?_set_self (by rw [h.1]; exact hl)]
    · left
      show ((S0.set j q)[j]?).getD .junk = .junk
      rw [List.getElem?_eq_none (by simp [h.1]; omega)]
      rfl
  · rw [rd_setne e, rd_setne e]
    exact h.2 j
/-- A text that neither reads nor writes a slot. -/
def clearOf (i : Nat) : MCode → Bool
  | .skip | .exit _ | .ret | .label _ | .fail => true
  | .ops l => l.all fun o => o.w != some i && !o.looks.contains i
  | .ops2 _ _ | .scope _ _ _ => false
  | .seq a b => clearOf i a && clearOf i b
  | .cond c a b => !c.slots.contains i && clearOf i a && clearOf i b
  | .block _ a | .loop a | .cut a => clearOf i a
theorem wanted_set {S : List AV} {i : Nat} {q : AV} {g : Option (Nat × Bool)} (h : ∀ j ∈ (g.map (·.1)).toList, j ≠ i) : wantedA (S.set i q) g = wantedA S g := by
  cases g with
  | none => rfl
  | some p =>
    obtain ⟨d, want⟩ := p
    have : d ≠ i := h d (by simp)
    simp only [wantedA]
    rw [rd_setne this]
theorem AOps_frame {i : Nat} {q : AV} : ∀ (l : List MOp) {Q : List AV → AHeap → Prop} {S : List AV} {H : AHeap}, (l.all fun o => o.w != some i && !o.looks.contains i) = true → AOps P l Q S H →
    AOps P l (fun T H' => ∃ S0, Q S0 H' ∧ T = S0.set i q) (S.set i q) H := by
  intro l
  induction l with
  | nil => intro Q S H _ h; exact ⟨S, h, rfl⟩
  | cons o r ih =>
    intro Q S H hc h
    rw [List.all_cons, Bool.and_eq_true] at hc
    obtain ⟨hc1, hc2⟩ := hc
    simp only [Bool.and_eq_true, bne_iff_ne, ne_eq, Bool.not_eq_true', List.contains_eq_mem, decide_eq_false_iff_not] at hc1
    obtain ⟨hw, hl⟩ := hc1
    have hl1 : ∀ j ∈ o.act.reads, j ≠ i := fun j hj e => hl (by unfold MOp.looks; rw [← e]; simp [hj])
    have hl2 : ∀ j ∈ (o.guard.map (·.1)).toList, j ≠ i := fun j hj e => hl (by unfold MOp.looks; rw [← e]; exact List.mem_append.2 (.inr hj))
    simp only [AOps] at h ⊢
    rw [wanted_set hl2]
    split at h
    · exact h.elim
    · rename_i t _
      cases t with
      | true =>
        simp only [if_true] at h ⊢
        obtain ⟨v, H1, h1, h2, h3⟩ := h
        refine ⟨v, H1, (out_congr (S := S) (S' := S.set i q) (fun j hj => (rd_setne (hl1 j hj)).symm)).1 h1, h2, ?_⟩
        rw [putS_setne hw]
        exact ih hc2 h3
      | false =>
        simp only [Bool.false_eq_true, if_false] at h ⊢
        have : skipS (S.set i q) o = (skipS S o).set i q := by
          unfold skipS
          split
          · exact putS_setne hw
          · rfl
        rw [this]
        exact ih hc2 h
/-- What a slot holds that a text does not touch does not matter. -/
theorem AW_frame {i : Nat} {q : AV} : ∀ {m : MCode}, clearOf i m = true → ∀ {Q : Post} {S : List AV} {H : AHeap}, AW P m Q S H → AW P m (fun e T H' => ∃ S0, Q e S0 H' ∧ T = S0.set i q) (S.set i q) H := by
  intro m
  induction m with
  | skip => intro _ Q S H h; exact ⟨S, h, rfl⟩
  | ops l => intro hc Q S H h; exact AOps_frame l hc h
  | ops2 l l' => intro hc; cases hc
  | seq a b iha ihb =>
    intro hc Q S H h
    simp only [clearOf, Bool.and_eq_true] at hc
    rw [AW_seq]
    refine AW_mono (fun e T H' h' => ?_) (iha hc.1 (Q := MX.then (AW P b Q) Q) h)
    obtain ⟨S0, h1, rfl⟩ := h'
    cases e with
    | normal => exact ihb hc.2 h1
    | exit id => exact ⟨S0, h1, rfl⟩
    | ret => exact ⟨S0, h1, rfl⟩
  | cond c a b iha ihb =>
    intro hc Q S H h
    simp only [clearOf, Bool.and_eq_true, Bool.not_eq_true', List.contains_eq_mem, decide_eq_false_iff_not] at hc
    have hr : rd (S.set i q) c = rd S c := by
      cases c with
      | s j => exact rd_setne (fun e => hc.1.1 (by simp [Opd.slots, e]))
      | c v => rfl
    simp only [AW] at h ⊢
    rw [hr]
    split at h
    · split at h
      · rename_i ht; rw [if_pos ht]; exact iha hc.1.2 h
      · rename_i ht; rw [if_neg ht]; exact ihb hc.2 h
    · exact h.elim
  | block id a iha =>
    intro hc Q S H h
    rw [AW_block]
    refine AW_mono (fun e T H' h' => ?_) (iha hc (Q := MX.inBlock id Q) h)
    obtain ⟨S0, h1, rfl⟩ := h'
    cases e with
    | normal => exact ⟨S0, h1, rfl⟩
    | exit id' =>
      simp only [MX.inBlock] at h1 ⊢
      split at h1
      · rename_i hi; rw [if_pos hi]; exact ⟨S0, h1, rfl⟩
      · rename_i hi; rw [if_neg hi]; exact ⟨S0, h1, rfl⟩
    | ret => exact ⟨S0, h1, rfl⟩
  | loop a iha =>
    intro hc Q S H h
    obtain ⟨J, ⟨k0, S0, hf, h0⟩, hstep⟩ := h
    refine ⟨fun k T H => ∃ S, T = S.set i q ∧ J k S H, ⟨k0, S0.set i q, forget_set hf i q, S0, rfl, h0⟩, ?_⟩
    rintro k T H1 ⟨S1, rfl, hj⟩
    refine AW_mono (fun e T H' h' => ?_) (iha hc (hstep k S1 H1 hj))
    obtain ⟨S2, h1, rfl⟩ := h'
    cases e with
    | normal =>
      obtain ⟨k', S'', g1, g2, g3⟩ := h1
      exact ⟨k', S''.set i q, g1, forget_set g2 i q, S'', rfl, g3⟩
    | exit id => exact ⟨S2, h1, rfl⟩
    | ret => exact ⟨S2, h1, rfl⟩
  | exit id => intro _ Q S H h; exact ⟨S, h, rfl⟩
  | cut a iha =>
    intro hc Q S H h
    obtain ⟨S0, h0, h1⟩ := h
    exact ⟨S0.set i q, forget_set h0 i q, iha hc h1⟩
  | label l => intro _ Q S H h; exact ⟨S, h, rfl⟩
  | scope g a r iha ihr => intro hc; cases hc
  | ret => intro _ Q S H h; exact ⟨S, h, rfl⟩
  | fail => intro _ Q S H h; exact h.elim
/-- The same for slots that are listed. -/
theorem AW_frameS {n i : Nat} {q : AV} {m : MCode} (hc : clearOf i m = true) (hi : i < n) {L L' : List (Nat × AV)} (hL : ∀ p ∈ L', p.1 ≠ i) {H H' : AHeap}
    (h : AW P m (fun e S1 H1 => e = .normal ∧ S1.length = n ∧ Has S1 L' ∧ H1 = H') (mkS n L) H) : AW P m (fun e S1 H1 => e = .normal ∧ S1.length = n ∧ Has S1 ((i, q) :: L') ∧ H1 = H') (mkS n ((i, q) :: L)) H := by
  refine AW_mono (fun e T H1 h' => ?_) (AW_frame (q := q) hc h)
  obtain ⟨S0, ⟨rfl, h1, h2, rfl⟩, rfl⟩ := h'
  refine ⟨rfl, by simpa using h1, fun p hp => ?_, rfl⟩
  rcases List.mem_cons.1 hp with rfl | hp
  · show ((S0.set i q)[i]?).getD .junk = q
    rw [List.getElem?_set_self (by omega)]
    rfl
  · rw [rd_setne (hL p hp)]
    exact h2 p hp
/-- What a run leaves behind, where it is not known ahead. -/
theorem AW_exS {α : Type} {m : MCode} (hno : noAlt m = true) {R : α → Prop} {K : α → List AV → AHeap → Prop} {S : List AV} {H : AHeap} (h : AW P m (fun e S1 H1 => e = .normal ∧ ∃ x, R x ∧ K x S1 H1) S H) :
    ∃ x, R x ∧ AW P m (fun e S1 H1 => e = .normal ∧ K x S1 H1) S H := by
  obtain ⟨x, hx⟩ := AW_ex hno (Q := fun x e S1 H1 => e = .normal ∧ R x ∧ K x S1 H1) (AW_mono (fun e S1 H1 h => by
    obtain ⟨rfl, x, h1, h2⟩ := h
    exact ⟨x, rfl, h1, h2⟩) h)
  have hR : R x := by
    refine Classical.byContradiction (fun hn => ?_)
    have : AW P m (fun _ _ _ => False) S H := AW_mono (fun _ _ _ h => hn h.2.1) hx
    exact AW_false hno this
  exact ⟨x, hR, AW_mono (fun _ _ _ h => ⟨h.1, h.2.2⟩) hx⟩
end
/-- Step after step, until it stops. -/
theorem chain_ex {α : Type} {inv stop : α → Prop} {R : α → α → Prop} {μ : α → Nat} (hstep : ∀ x, inv x → ¬ stop x → ∃ y, R x y ∧ inv y ∧ μ y < μ x) : ∀ (m : Nat) (x0 : α), μ x0 = m → inv x0 → ∃ (N : Nat) (f : Nat → α), f 0 = x0 ∧ (∀ k, k ≤ N → inv (f k)) ∧ (∀ k, k < N → ¬ stop (f k) ∧ R (f k) (f (k + 1))) ∧ stop (f N) := by
  intro m
  induction m using Nat.strongRecOn with
  | ind m ih =>
    intro x0 hm h0
    rcases Classical.em (stop x0) with hs | hs
    · exact ⟨0, fun _ => x0, rfl, fun k _ => h0, fun k hk => by omega, hs⟩
    obtain ⟨y, hR, hy, hlt⟩ := hstep x0 h0 hs
    obtain ⟨N, f, f0, f1, f2, f3⟩ := ih (μ y) (by omega) y rfl hy
    refine ⟨N + 1, fun k => match k with | 0 => x0 | k + 1 => f k, rfl, fun k hk => ?_, fun k hk => ?_, f3⟩
    · cases k with
      | zero => exact h0
      | succ k => exact f1 k (by omega)
    · cases k with
      | zero => exact ⟨hs, by show R x0 (f 0); rw [f0]; exact hR⟩
      | succ k => exact f2 k (by omega)
end Go.Eng

namespace Go.Proofs.Ytgidfejkfdkflaa
open Go Go.Eng
/-- Whether an owner is left. -/
def bl (l : List Bool) (i : Nat) : Bool := (l[i]?).getD false
/-- The first in a row that is left. -/
def fsl (row : List Int) (left : List Bool) : Int := (row[(fpos (fun p => bl left p.toNat) row).toNat]?).getD 0
/-- To which plot an owner points. -/
def pf (V : List (List Int)) (left : List Bool) (i : Nat) : Nat := (fsl (rw' V i) left).toNat
theorem fsl_at {V : List (List Int)} (hg : gd V) {left : List Bool} (h0 : ∃ j, j < V.length ∧ bl left j = true) {i : Nat} (hi : i < V.length) :
    ∃ j : Nat, fpos (fun p => bl left p.toNat) (rw' V i) = j ∧ (rw' V i)[j]? = some (pf V left i : Int) ∧ fsl (rw' V i) left = (pf V left i : Int) ∧ pf V left i < V.length ∧ bl left (pf V left i) = true ∧ ∀ p, p < V.length → bl left p = true → rk V i (pf V left i) ≤ rk V i p := by
  have hrow := row_O hg hi
  obtain ⟨j0, hj0, hb0⟩ := h0
  obtain ⟨j, z, h1, h2, h3, h4⟩ := fpos_ex (g := fun p => bl left p.toNat) (xs := rw' V i) ⟨_, hrow.2 j0 hj0, by simpa using hb0⟩
  have hz := nums_in (isO_perm hrow) z (List.mem_of_getElem? h1)
  have e : fsl (rw' V i) left = z := by unfold fsl; rw [h4, Int.toNat_natCast, h1]; rfl
  have e2 : (pf V left i : Int) = z := by unfold pf; rw [e]; omega
  refine ⟨j, h4, by rw [e2]; exact h1, by rw [e2]; exact e, by omega, by unfold pf; rw [e]; exact h2, fun p hp hb => ?_⟩
  obtain ⟨m, m1, m2⟩ := pos_in (hrow.2 p hp)
  have hjm : j ≤ m := by
    rcases Nat.lt_or_ge m j with h5 | h5
    · exfalso
      have : (p : Int) ∈ (rw' V i).take j := List.mem_of_getElem? (i := m) (by rw [List.getElem?_take, if_pos h5]; exact m2)
      have := h3 _ this
      simp at this
      rw [hb] at this
      cases this
    · exact h5
  have hpj : pos (rw' V i) z ≤ j := by
    obtain ⟨k, z', k1, k2, k3, k4⟩ := fpos_ex (g := fun y => decide (z = y)) (xs := rw' V i) ⟨z, List.mem_of_getElem? h1, by simp⟩
    have hk : pos (rw' V i) z = k := k4
    rcases Nat.lt_or_ge j k with h6 | h6
    · exfalso
      have : z ∈ (rw' V i).take k := List.mem_of_getElem? (i := j) (by rw [List.getElem?_take, if_pos h6]; exact h1)
      have := k3 z this
      simp at this
    · omega
  have r1 := rk_pos hg hi hp
  have r2 := rk_pos hg hi (p := pf V left i) (by omega)
  rw [e2] at r2
  omega
/-- Those of a cycle are marked. -/
def mC (c : List Int) (left : List Bool) : Nat → List Bool
  | 0 => left
  | m + 1 => (mC c left m).set ((c[m]?).getD 0).toNat false
def mL (cs : List (List Int)) (left : List Bool) : Nat → List Bool
  | 0 => left
  | j + 1 => mC ((cs[j]?).getD []) (mL cs left j) ((cs[j]?).getD []).length
/-- Those of a cycle get what the next one has. -/
def dC (c : List Int) (out : List Int) : Nat → List Int
  | 0 => out
  | m + 1 => (dC c out m).set ((c[m]?).getD 0).toNat ((c[(m + 1) % c.length]?).getD 0)
def dL (cs : List (List Int)) (out : List Int) : Nat → List Int
  | 0 => out
  | j + 1 => dC ((cs[j]?).getD []) (dL cs out j) ((cs[j]?).getD []).length
def cz (c : List Nat) : List Int := c.map (fun i : Nat => (i : Int))
theorem mC_len (c : List Int) (left : List Bool) : ∀ m, (mC c left m).length = left.length
  | 0 => rfl
  | m + 1 => by rw [mC, List.length_set, mC_len c left m]
theorem mL_len (cs : List (List Int)) (left : List Bool) : ∀ j, (mL cs left j).length = left.length
  | 0 => rfl
  | j + 1 => by rw [mL, mC_len, mL_len cs left j]
theorem dC_len (c : List Int) (out : List Int) : ∀ m, (dC c out m).length = out.length
  | 0 => rfl
  | m + 1 => by rw [dC, List.length_set, dC_len c out m]
theorem dL_len (cs : List (List Int)) (out : List Int) : ∀ j, (dL cs out j).length = out.length
  | 0 => rfl
  | j + 1 => by rw [dL, dC_len, dL_len cs out j]
theorem bl_set (l : List Bool) (i j : Nat) : bl (l.set j false) i = (bl l i && !decide (i = j)) := by
  unfold bl
  by_cases h : j = i
  · subst h
    simp only [decide_true, Bool.not_true, Bool.and_false]
    rw [List.getElem?_set]
    simp only [if_true]
    split <;> rfl
  · rw [List.getElem?_set_ne h]
    have : ¬ i = j := fun e => h e.symm
    simp [this]
theorem cz_get {c : List Nat} {k y : Nat} (h : c[k]? = some y) : (cz c)[k]? = some (y : Int) := by
  unfold cz
  rw [List.getElem?_map, h]
  rfl
theorem mC_bl (c : List Nat) (left : List Bool) (i : Nat) : ∀ m, m ≤ c.length → bl (mC (cz c) left m) i = (bl left i && !decide (i ∈ c.take m))
  | 0, _ => by simp [mC]
  | m + 1, hm => by
    obtain ⟨y, hy⟩ : ∃ y, c[m]? = some y := ⟨_, List.getElem?_eq_getElem (by omega)⟩
    rw [mC, bl_set, mC_bl c left i m (by omega), cz_get hy, List.take_add_one, hy]
    simp only [Option.getD_some, Int.toNat_natCast, Option.toList_some, List.mem_append, List.mem_singleton, Bool.decide_or, Bool.not_or, Bool.and_assoc]
theorem mL_bl (cs : List (List Nat)) (left : List Bool) (i : Nat) : ∀ j, j ≤ cs.length → bl (mL (cs.map cz) left j) i = (bl left i && !decide (i ∈ (cs.take j).flatten))
  | 0, _ => by simp [mL]
  | j + 1, hj => by
    obtain ⟨c, hc⟩ : ∃ c, cs[j]? = some c := ⟨_, List.getElem?_eq_getElem (by omega)⟩
    have hcz : (cs.map cz)[j]? = some (cz c) := by rw [List.getElem?_map, hc]; rfl
    have hlen : (cz c).length = c.length := by simp [cz]
    rw [mL, hcz, Option.getD_some, hlen, mC_bl c _ i c.length (Nat.le_refl _), mL_bl cs left i j (by omega), List.take_add_one, hc, List.take_length]
    simp only [Option.toList_some, List.flatten_append, List.flatten_cons, List.flatten_nil, List.append_nil, List.mem_append, Bool.decide_or, Bool.not_or, Bool.and_assoc]
theorem fo_set {l : List Int} {i j : Nat} {x : Nat} (hj : j < l.length) : fo (l.set j (x : Int)) i = if i = j then x else fo l i := by
  unfold fo
  by_cases h : j = i
  · subst h
    rw [List.getElem?_set_self hj]
    simp
  · rw [List.getElem?_set_ne h]
    have : ¬ i = j := fun e => h e.symm
    simp [this]
theorem dC_fo {f : Nat → Nat} {c : List Nat} {out : List Int} (hin : ∀ y ∈ c, y < out.length) (hnx : ∀ k y, c[k]? = some y → c[(k + 1) % c.length]? = some (f y)) (i : Nat) : ∀ m, m ≤ c.length → fo (dC (cz c) out m) i = if i ∈ c.take m then f i else fo out i
  | 0, _ => by simp [dC]
  | m + 1, hm => by
    obtain ⟨y, hy⟩ : ∃ y, c[m]? = some y := ⟨_, List.getElem?_eq_getElem (by omega)⟩
    have hlen : (cz c).length = c.length := by simp [cz]
    rw [dC, hlen, cz_get hy, cz_get (hnx m y hy)]
    simp only [Option.getD_some, Int.toNat_natCast]
    rw [fo_set (by rw [dC_len]; exact hin y (List.mem_of_getElem? hy)), dC_fo hin hnx i m (by omega), List.take_add_one, hy]
    simp only [Option.toList_some, List.mem_append, List.mem_singleton]
    by_cases h : i = y
    · subst h; simp
    · simp [h]
theorem dC_nn {f : Nat → Nat} {c : List Nat} {out : List Int} (hnx : ∀ k y, c[k]? = some y → c[(k + 1) % c.length]? = some (f y)) (h0 : ∀ x ∈ out, 0 ≤ x) : ∀ m, m ≤ c.length → ∀ x ∈ dC (cz c) out m, 0 ≤ x
  | 0, _ => h0
  | m + 1, hm => by
    obtain ⟨y, hy⟩ : ∃ y, c[m]? = some y := ⟨_, List.getElem?_eq_getElem (by omega)⟩
    have hlen : (cz c).length = c.length := by simp [cz]
    intro x hx
    rw [dC, hlen, cz_get hy, cz_get (hnx m y hy)] at hx
    simp only [Option.getD_some, Int.toNat_natCast] at hx
    rcases List.mem_or_eq_of_mem_set hx with h | h
    · exact dC_nn hnx h0 m (by omega) x h
    · omega
theorem dL_fo {f : Nat → Nat} {cs : List (List Nat)} {out : List Int} (hin : ∀ c ∈ cs, ∀ y ∈ c, y < out.length) (hnx : ∀ c ∈ cs, ∀ k y, c[k]? = some y → c[(k + 1) % c.length]? = some (f y)) (i : Nat) : ∀ j, j ≤ cs.length → fo (dL (cs.map cz) out j) i = if i ∈ (cs.take j).flatten then f i else fo out i
  | 0, _ => by simp [dL]
  | j + 1, hj => by
    obtain ⟨c, hc⟩ : ∃ c, cs[j]? = some c := ⟨_, List.getElem?_eq_getElem (by omega)⟩
    have hcm := List.mem_of_getElem? hc
    have hcz : (cs.map cz)[j]? = some (cz c) := by rw [List.getElem?_map, hc]; rfl
    have hlen : (cz c).length = c.length := by simp [cz]
    rw [dL, hcz, Option.getD_some, hlen, dC_fo (fun y hy => by rw [dL_len]; exact hin c hcm y hy) (hnx c hcm) i c.length (Nat.le_refl _), dL_fo hin hnx i j (by omega), List.take_add_one, hc, List.take_length]
    simp only [Option.toList_some, List.flatten_append, List.flatten_cons, List.flatten_nil, List.append_nil, List.mem_append]
    by_cases h : i ∈ c
    · simp [h]
    · simp [h]
theorem dL_nn {f : Nat → Nat} {cs : List (List Nat)} {out : List Int} (hnx : ∀ c ∈ cs, ∀ k y, c[k]? = some y → c[(k + 1) % c.length]? = some (f y)) (h0 : ∀ x ∈ out, 0 ≤ x) : ∀ j, j ≤ cs.length → ∀ x ∈ dL (cs.map cz) out j, 0 ≤ x
  | 0, _ => h0
  | j + 1, hj => by
    obtain ⟨c, hc⟩ : ∃ c, cs[j]? = some c := ⟨_, List.getElem?_eq_getElem (by omega)⟩
    have hcz : (cs.map cz)[j]? = some (cz c) := by rw [List.getElem?_map, hc]; rfl
    have hlen : (cz c).length = c.length := by simp [cz]
    rw [dL, hcz, Option.getD_some, hlen]
    exact dC_nn (hnx c (List.mem_of_getElem? hc)) (dL_nn hnx h0 j (by omega)) c.length (Nat.le_refl _)
/-- How many are left. -/
def lcnt (n : Nat) (left : List Bool) : Nat := ((List.range n).filter (bl left)).length
/-- A round, as a whole. -/
theorem round_plain {V : List (List Int)} (hg : gd V) {left : List Bool} {out : List Int} {t : Nat → Nat} {s : Nat} (ho : out.length = V.length) (h0 : ∀ x ∈ out, 0 ≤ x) (h : TS V.length (rk V) (bl left) (fo out) t s)
    {cs : List (List Nat)} (hcs : Cs V.length (bl left) (pf V left) cs) (hne : cs ≠ []) :
    (∀ x ∈ dL (cs.map cz) out cs.length, 0 ≤ x) ∧ (∃ t', TS V.length (rk V) (bl (mL (cs.map cz) left cs.length)) (fo (dL (cs.map cz) out cs.length)) t' (s + 1)) ∧ lcnt V.length (mL (cs.map cz) left cs.length) < lcnt V.length left := by
  have hnx : ∀ c ∈ cs, ∀ k y, c[k]? = some y → c[(k + 1) % c.length]? = some (pf V left y) := fun c hc k y hk => by
    obtain ⟨i, x, k1, k2, k3, k4⟩ := hcs.cyc c hc
    exact k1.next k2 k3 hk
  have hin : ∀ c ∈ cs, ∀ y ∈ c, y < V.length ∧ bl left y = true := fun c hc y hy => by
    obtain ⟨i, x, k1, k2, k3, k4⟩ := hcs.cyc c hc
    exact k4 y hy
  have hex : ∃ i, i < V.length ∧ bl left i = true ∧ i ∈ allX cs := by
    obtain ⟨c, hc⟩ := List.exists_mem_of_ne_nil cs hne
    obtain ⟨i, x, k1, k2, k3, k4⟩ := hcs.cyc c hc
    have hi : i ∈ c := List.mem_of_getElem? k1.h0
    exact ⟨i, (k4 i hi).1, (k4 i hi).2, List.mem_flatten.2 ⟨c, hc, hi⟩⟩
  obtain ⟨f1, f2, f3⟩ := hcs.facts
  have hm : ∀ i, bl (mL (cs.map cz) left cs.length) i = (bl left i && !decide (i ∈ allX cs)) := fun i => by
    rw [mL_bl cs left i cs.length (Nat.le_refl _), List.take_length]
    rfl
  have hd : ∀ i, fo (dL (cs.map cz) out cs.length) i = if i ∈ allX cs then pf V left i else fo out i := fun i => by
    rw [dL_fo (fun c hc y hy => by rw [ho]; exact (hin c hc y hy).1) hnx i cs.length (Nat.le_refl _), List.take_length]
    rfl
  obtain ⟨i0, hi0, hb0, hx0⟩ := hex
  refine ⟨dL_nn hnx h0 cs.length (Nat.le_refl _), ⟨_, (h.step (X := allX cs) (f := pf V left) f1 f2 f3 (fun i hi p hp hlp => ?_)).congr (fun i _ => hm i) (fun i _ _ => hd i)⟩, ?_⟩
  · obtain ⟨j, _, _, _, _, _, hbest⟩ := fsl_at hg ⟨i0, hi0, hb0⟩ (f1 i hi).1
    exact hbest p hp hlp
  · have hmem : i0 ∈ (List.range V.length).filter (bl left) := by simp [hi0, hb0]
    have := sub_len ((List.range V.length).filter (bl (mL (cs.map cz) left cs.length))) (((List.range V.length).filter (bl left)).erase i0) (List.nodup_range.filter _) (fun x hx => by
      simp only [List.mem_filter, List.mem_range] at hx
      rw [hm] at hx
      simp only [Bool.and_eq_true, Bool.not_eq_true', decide_eq_false_iff_not] at hx
      refine (List.mem_erase_of_ne (fun e => ?_)).2 (by simp [hx.1, hx.2.1])
      subst e
      exact hx.2.2 hx0)
    rw [List.length_erase_of_mem hmem] at this
    have h2 := List.length_pos_of_mem hmem
    unfold lcnt
    omega
/-- When nobody is left, all is dealt. -/
theorem round_end {V : List (List Int)} {left : List Bool} {out : List Int} {t : Nat → Nat} {s : Nat} (ho : out.length = V.length) (h0 : ∀ x ∈ out, 0 ≤ x) (h : TS V.length (rk V) (bl left) (fo out) t s) (hl : ∀ i, i < V.length → bl left i = false) :
    out.Perm (nums V.length) ∧ TTC V.length (rk V) (fo out) t := by
  have hd := h.done hl
  have e : out = (List.range V.length).map (fun i => (fo out i : Int)) := by
    refine List.ext_getElem? (fun i => ?_)
    rw [List.getElem?_map]
    rcases Nat.lt_or_ge i V.length with h1 | h1
    · have hio : i < out.length := by omega
      rw [List.getElem?_range h1, List.getElem?_eq_getElem hio]
      have := h0 _ (List.getElem_mem hio)
      simp only [Option.map_some, Option.some.injEq]
      unfold fo
      rw [List.getElem?_eq_getElem hio]
      simp only [Option.getD_some]
      omega
    · rw [List.getElem?_eq_none (by omega), List.getElem?_eq_none (by simp; omega)]
      rfl
  refine ⟨?_, hd⟩
  have := perm_of hd.lt hd.inj
  rw [← e] at this
  exact this
end Go.Proofs.Ytgidfejkfdkflaa

namespace Go.Proofs.Ytgidfejkfdkflaa
open Go Go.Eng
/-- selion/swap.rounds$1 [] -/
def m43p0 : MCode :=
 .ops [⟨(some 16), some undefA, none, false, .ld (.ld 1 false (.s 1))⟩,
   ⟨(some 17), some undefA, none, false, .pu (.len (.s 16))⟩,
   ⟨(some 18), some undefA, none, false, .ha (.mks 1 [.bool false] (.s 17) (.s 17))⟩,
   ⟨(some 3), some undefA, none, false, .ha (.newv (.c (.nilS)))⟩,
   ⟨none, some undefA, none, false, .ha (.st 1 (.s 3) (.s 18))⟩]
/-- selion/swap.rounds$1 [loop [3, 20, 21]] -/
def m43p1 : MCode :=
 .seq (.ops [⟨(some 19), some undefA, none, false, .ld (.ld 1 false (.s 3))⟩,
   ⟨(some 20), some undefA, none, false, .pu (.len (.s 19))⟩,
   ⟨(some 21), some undefA, none, false, .pu (.mov (.c (.int .i64 0)))⟩])
 (.block 0 (.loop (.seq (.ops [⟨(some 22), some undefA, none, false, .pu (.bin .lss (.s 21) (.s 20))⟩])
   (.seq (.cond (.s 22) (.skip)
   (.exit 0))
   (.seq (.block 1 (.seq (.ops [⟨(some 23), some undefA, none, false, .pu (.mov (.s 21))⟩,
      ⟨(some 4), some undefA, none, false, .pu (.mov (.s 23))⟩])
    (.ops [⟨(some 24), some undefA, none, false, .ld (.ld 1 false (.s 3))⟩,
      ⟨(some 25), some undefA, none, false, .pu (.mov (.s 4))⟩,
      ⟨(some 26), some undefA, none, false, .pu (.idx 1 (.s 24) (.s 25))⟩,
      ⟨none, some undefA, none, false, .ha (.st 1 (.s 26) (.c (.bool true)))⟩])))
   (.ops [⟨(some 27), some undefA, none, false, .pu (.bin .add (.s 21) (.c (.int .i64 1)))⟩,
     ⟨(some 21), some undefA, none, false, .pu (.mov (.s 27))⟩]))))))
/-- selion/swap.rounds$1 [] -/
def m43p2 : MCode :=
 .seq (.ops [⟨(some 28), some undefA, none, false, .ld (.ld 1 false (.s 3))⟩,
   ⟨(some 29), some undefA, none, false, .call 44 [(.s 28), (.c (.bool true))]⟩])
 (.cond (.s 29) (.skip)
 (.exit 2))
/-- selion/swap.rounds$1 [] -/
def m43p3 : MCode :=
 .ops [⟨(some 30), some undefA, none, false, .ld (.ld 1 false (.s 1))⟩,
   ⟨(some 31), some undefA, none, false, .pu (.len (.s 30))⟩,
   ⟨(some 32), some undefA, none, false, .ha (.mks 1 [.int .i64 0] (.s 31) (.s 31))⟩,
   ⟨(some 5), some undefA, none, false, .pu (.mov (.s 32))⟩]
/-- selion/swap.rounds$1 [loop [3, 5, 33, 34, 35]] -/
def m43p4 : MCode :=
 .seq (.ops [⟨(some 33), some undefA, none, false, .ld (.ld 1 false (.s 1))⟩,
   ⟨(some 34), some undefA, none, false, .pu (.len (.s 33))⟩,
   ⟨(some 35), some undefA, none, false, .pu (.mov (.c (.int .i64 0)))⟩])
 (.block 4 (.loop (.seq (.ops [⟨(some 36), some undefA, none, false, .pu (.bin .lss (.s 35) (.s 34))⟩])
   (.seq (.cond (.s 36) (.skip)
   (.exit 4))
   (.seq (.block 5 (.seq (.ops [⟨(some 37), some undefA, none, false, .pu (.mov (.s 35))⟩,
      ⟨(some 38), some undefA, none, false, .pu (.idx 1 (.s 33) (.s 35))⟩,
      ⟨(some 39), some undefA, none, false, .ld (.ld 1 false (.s 38))⟩,
      ⟨(some 6), some undefA, none, false, .pu (.mov (.s 37))⟩,
      ⟨(some 7), some undefA, none, false, .pu (.mov (.s 39))⟩])
    (.ops [⟨(some 40), some undefA, none, false, .pu (.mov (.s 5))⟩,
      ⟨(some 41), some undefA, none, false, .pu (.mov (.s 6))⟩,
      ⟨(some 42), some undefA, none, false, .pu (.mov (.s 7))⟩,
      ⟨(some 43), some undefA, none, false, .pu (.mov (.s 7))⟩,
      ⟨(some 44), some undefA, none, false, .pu (.mkf 45 [(.s 3)])⟩,
      ⟨(some 45), some undefA, none, false, .call 41 [(.s 43), (.s 44)]⟩,
      ⟨(some 46), some undefA, none, false, .pu (.idx 1 (.s 42) (.s 45))⟩,
      ⟨(some 47), some undefA, none, false, .ld (.ld 1 false (.s 46))⟩,
      ⟨(some 48), some undefA, none, false, .pu (.idx 1 (.s 40) (.s 41))⟩,
      ⟨none, some undefA, none, false, .ha (.st 1 (.s 48) (.s 47))⟩])))
   (.ops [⟨(some 49), some undefA, none, false, .pu (.bin .add (.s 35) (.c (.int .i64 1)))⟩,
     ⟨(some 35), some undefA, none, false, .pu (.mov (.s 49))⟩]))))))
/-- selion/swap.rounds$1 [] -/
def m43p5 : MCode :=
 .ops [⟨(some 8), some undefA, none, false, .pu (.mov (.c (.nilS)))⟩]
/-- selion/swap.rounds$1 [loop [3, 5, 8, 51, 52], loop [3, 5, 8, 9, 10, 11, 51, 52]] -/
def m43p6 : MCode :=
 .seq (.ops [⟨(some 50), some undefA, none, false, .ld (.ld 1 false (.s 1))⟩,
   ⟨(some 51), some undefA, none, false, .pu (.len (.s 50))⟩,
   ⟨(some 52), some undefA, none, false, .pu (.mov (.c (.int .i64 0)))⟩])
 (.block 6 (.loop (.seq (.ops [⟨(some 53), some undefA, none, false, .pu (.bin .lss (.s 52) (.s 51))⟩])
   (.seq (.cond (.s 53) (.skip)
   (.exit 6))
   (.seq (.block 7 (.seq (.ops [⟨(some 54), some undefA, none, false, .pu (.mov (.s 52))⟩,
      ⟨(some 9), some undefA, none, false, .ha (.newv (.c (.int .i64 0)))⟩,
      ⟨none, some undefA, none, false, .ha (.st 1 (.s 9) (.s 54))⟩])
    (.seq (.seq (.ops [⟨(some 55), some undefA, none, false, .ld (.ld 1 false (.s 3))⟩,
      ⟨(some 56), some undefA, none, false, .ld (.ld 1 false (.s 9))⟩,
      ⟨(some 57), some undefA, none, false, .pu (.idx 1 (.s 55) (.s 56))⟩,
      ⟨(some 58), some undefA, none, false, .ld (.ld 1 false (.s 57))⟩,
      ⟨(some 59), some undefA, none, false, .pu (.not (.s 58))⟩,
      ⟨(some 60), some undefA, none, false, .pu (.mov (.s 59))⟩,
      ⟨(some 61), some undefA, (some (60, false)), false, .pu (.mov (.s 8))⟩,
      ⟨(some 62), some undefA, (some (60, false)), false, .pu (.mkf 46 [(.s 9)])⟩,
      ⟨(some 63), some undefA, (some (60, false)), false, .call 21 [(.s 61), (.s 62)]⟩,
      ⟨(some 64), some undefA, none, false, .pu (.pick (.s 60) (.c (.bool true)) (.s 63))⟩])
    (.cond (.s 64) (.exit 7)
    (.skip)))
    (.seq (.ops [⟨(some 65), some undefA, none, false, .ld (.ld 1 false (.s 9))⟩,
      ⟨(some 66), some undefA, none, false, .ha (.blds 1 1 [.int .i64 0] [(0, 1, (.s 65))])⟩,
      ⟨(some 10), some undefA, none, false, .pu (.mov (.s 66))⟩])
    (.seq (.seq (.ops [⟨(some 67), some undefA, none, false, .pu (.mov (.s 5))⟩,
      ⟨(some 68), some undefA, none, false, .ld (.ld 1 false (.s 9))⟩,
      ⟨(some 69), some undefA, none, false, .pu (.idx 1 (.s 67) (.s 68))⟩,
      ⟨(some 70), some undefA, none, false, .ld (.ld 1 false (.s 69))⟩,
      ⟨(some 11), some undefA, none, false, .pu (.mov (.s 70))⟩])
    (.block 8 (.loop (.seq (.seq (.ops [⟨(some 71), some undefA, none, false, .pu (.mov (.s 10))⟩,
        ⟨(some 72), some undefA, none, false, .pu (.mov (.s 11))⟩,
        ⟨(some 73), some undefA, none, false, .call 35 [(.s 71), (.s 72)]⟩,
        ⟨(some 74), some undefA, none, false, .pu (.not (.s 73))⟩])
      (.cond (.s 74) (.skip)
      (.exit 8)))
      (.seq (.block 9 (.ops [⟨(some 79), some undefA, none, false, .pu (.mov (.s 10))⟩,
         ⟨(some 80), some undefA, none, false, .pu (.mov (.s 11))⟩,
         ⟨(some 81), some undefA, none, false, .ha (.blds 1 1 [.int .i64 0] [(0, 1, (.s 80))])⟩,
         ⟨(some 82), some undefA, none, false, .ha (.app 1 (.s 79) (.s 81))⟩,
         ⟨(some 10), some undefA, none, false, .pu (.mov (.s 82))⟩]))
      (.ops [⟨(some 75), some undefA, none, false, .pu (.mov (.s 5))⟩,
        ⟨(some 76), some undefA, none, false, .pu (.mov (.s 11))⟩,
        ⟨(some 77), some undefA, none, false, .pu (.idx 1 (.s 75) (.s 76))⟩,
        ⟨(some 78), some undefA, none, false, .ld (.ld 1 false (.s 77))⟩,
        ⟨(some 11), some undefA, none, false, .pu (.mov (.s 78))⟩]))))))
    (.seq (.ops [⟨(some 83), some undefA, none, true, .pu (.mov (.s 5))⟩,
      ⟨(some 84), some undefA, none, true, .pu (.mov (.s 10))⟩,
      ⟨(some 85), some undefA, none, true, .pu (.mov (.s 10))⟩,
      ⟨(some 86), some undefA, none, true, .pu (.len (.s 85))⟩,
      ⟨(some 87), some undefA, none, true, .pu (.bin .sub (.s 86) (.c (.int .i64 1)))⟩,
      ⟨(some 88), some undefA, none, true, .pu (.idx 1 (.s 84) (.s 87))⟩,
      ⟨(some 89), some undefA, none, true, .ld (.ld 1 false (.s 88))⟩,
      ⟨(some 90), some undefA, none, true, .pu (.idx 1 (.s 83) (.s 89))⟩,
      ⟨(some 91), some undefA, none, true, .ld (.ld 1 false (.s 90))⟩,
      ⟨(some 92), some undefA, none, true, .ld (.ld 1 false (.s 9))⟩,
      ⟨(some 93), some undefA, none, false, .pu (.bin .eql (.s 91) (.s 92))⟩])
    (.cond (.s 93) (.ops [⟨(some 94), some undefA, none, false, .pu (.mov (.s 8))⟩,
       ⟨(some 95), some undefA, none, false, .pu (.mov (.s 10))⟩,
       ⟨(some 96), some undefA, none, false, .ha (.blds 1 1 [.nilS] [(0, 1, (.s 95))])⟩,
       ⟨(some 97), some undefA, none, false, .ha (.app 1 (.s 94) (.s 96))⟩,
       ⟨(some 8), some undefA, none, false, .pu (.mov (.s 97))⟩])
    (.skip))))))))
   (.ops [⟨(some 98), some undefA, none, false, .pu (.bin .add (.s 52) (.c (.int .i64 1)))⟩,
     ⟨(some 52), some undefA, none, false, .pu (.mov (.s 98))⟩]))))))
/-- selion/swap.rounds$1 [loop [3, 99, 100, 101], loop [3, 99, 100, 101, 105, 106, 107]] -/
def m43p7 : MCode :=
 .seq (.ops [⟨(some 99), some undefA, none, false, .pu (.mov (.s 8))⟩,
   ⟨(some 100), some undefA, none, false, .pu (.len (.s 99))⟩,
   ⟨(some 101), some undefA, none, false, .pu (.mov (.c (.int .i64 0)))⟩])
 (.block 10 (.loop (.seq (.ops [⟨(some 102), some undefA, none, false, .pu (.bin .lss (.s 101) (.s 100))⟩])
   (.seq (.cond (.s 102) (.skip)
   (.exit 10))
   (.seq (.block 11 (.seq (.ops [⟨(some 103), some undefA, none, false, .pu (.idx 1 (.s 99) (.s 101))⟩,
      ⟨(some 104), some undefA, none, false, .ld (.ld 1 false (.s 103))⟩,
      ⟨(some 13), some undefA, none, false, .pu (.mov (.s 104))⟩])
    (.seq (.ops [⟨(some 105), some undefA, none, false, .pu (.mov (.s 13))⟩,
      ⟨(some 106), some undefA, none, false, .pu (.len (.s 105))⟩,
      ⟨(some 107), some undefA, none, false, .pu (.mov (.c (.int .i64 0)))⟩])
    (.block 12 (.loop (.seq (.ops [⟨(some 108), some undefA, none, false, .pu (.bin .lss (.s 107) (.s 106))⟩])
      (.seq (.cond (.s 108) (.skip)
      (.exit 12))
      (.seq (.block 13 (.seq (.ops [⟨(some 109), some undefA, none, false, .pu (.idx 1 (.s 105) (.s 107))⟩,
         ⟨(some 110), some undefA, none, false, .ld (.ld 1 false (.s 109))⟩,
         ⟨(some 15), some undefA, none, false, .pu (.mov (.s 110))⟩])
       (.ops [⟨(some 111), some undefA, none, false, .ld (.ld 1 false (.s 3))⟩,
         ⟨(some 112), some undefA, none, false, .pu (.mov (.s 15))⟩,
         ⟨(some 113), some undefA, none, false, .pu (.idx 1 (.s 111) (.s 112))⟩,
         ⟨none, some undefA, none, false, .ha (.st 1 (.s 113) (.c (.bool false)))⟩])))
      (.ops [⟨(some 114), some undefA, none, false, .pu (.bin .add (.s 107) (.c (.int .i64 1)))⟩,
        ⟨(some 107), some undefA, none, false, .pu (.mov (.s 114))⟩])))))))))
   (.ops [⟨(some 115), some undefA, none, false, .pu (.bin .add (.s 101) (.c (.int .i64 1)))⟩,
     ⟨(some 101), some undefA, none, false, .pu (.mov (.s 115))⟩]))))))
/-- selion/swap.rounds$1 [] -/
def m43p9 : MCode :=
 .cond (.s 119) (.ret)
 (.skip)
/-- The heap at the head of a round: the deal so far, its box, the lists' box, who is left, and its box. -/
structure RH (A : AHeap) (v : AV) (H : AHeap) (left : List Bool) (out : List Int) : Prop where
  pre : A <+: H
  ho : H[A.length]? = some (.cells true (out.flatMap e1))
  hb : H[A.length + 1]? = some (.cells true [.sl 1 A.length 0 out.length true])
  hv : H[A.length + 2]? = some (.cells true [v])
  hl : H[A.length + 3]? = some (.cells true (left.flatMap eb))
  hc : H[A.length + 4]? = some (.cells true [.sl 1 (A.length + 3) 0 left.length true])
section
variable {A H : AHeap} {v : AV} {left : List Bool} {out : List Int}
theorem RH.mono {H' : AHeap} (h : RH A v H left out) (hp : H <+: H') : RH A v H' left out := ⟨h.pre.trans hp, pre_get hp h.ho, pre_get hp h.hb, pre_get hp h.hv, pre_get hp h.hl, pre_get hp h.hc⟩
theorem RH.len (h : RH A v H left out) : A.length + 5 ≤ H.length := by have := (List.getElem?_eq_some_iff.1 h.hc).1; omega
theorem RH.ldv (h : RH A v H left out) : ldA 1 false (.ptr (A.length + 2) 0) H = some v := by simp [ldA, partA, h.hv]
theorem RH.ldl (h : RH A v H left out) : ldA 1 false (.ptr (A.length + 4) 0) H = some (.sl 1 (A.length + 3) 0 left.length true) := by simp [ldA, partA, h.hc]
theorem RH.ldo (h : RH A v H left out) : ldA 1 false (.ptr (A.length + 1) 0) H = some (.sl 1 A.length 0 out.length true) := by simp [ldA, partA, h.hb]
theorem RH.oll (h : RH A v H left out) : OL 1 eb A H (A.length + 3) (.sl 1 (A.length + 3) 0 left.length true) left := ⟨eb_len, h.pre, by omega, h.hl, true, rfl⟩
theorem RH.olo (h : RH A v H left out) : OL 1 e1 A H A.length (.sl 1 A.length 0 out.length true) out := ⟨e1_len, h.pre, Nat.le_refl _, h.ho, true, rfl⟩
theorem RH.setL (h : RH A v H left out) {left' : List Bool} (hl : left'.length = left.length) : RH A v (H.set (A.length + 3) (.cells true (left'.flatMap eb))) left' out := by
  have hn := h.len
  refine ⟨pre_set h.pre (by omega) _, ?_, ?_, ?_, List.getElem?_set_self (by omega), ?_⟩
  · rw [List.getElem?_set_ne (by omega)]; exact h.ho
  · rw [List.getElem?_set_ne (by omega)]; exact h.hb
  · rw [List.getElem?_set_ne (by omega)]; exact h.hv
  · rw [List.getElem?_set_ne (by omega), hl]; exact h.hc
theorem RH.setO (h : RH A v H left out) {out' : List Int} (hl : out'.length = out.length) : RH A v (H.set A.length (.cells true (out'.flatMap e1))) left out' := by
  have hn := h.len
  refine ⟨pre_set h.pre (Nat.le_refl _) _, List.getElem?_set_self (by omega), ?_, ?_, ?_, ?_⟩
  · rw [List.getElem?_set_ne (by omega), hl]; exact h.hb
  · rw [List.getElem?_set_ne (by omega)]; exact h.hv
  · rw [List.getElem?_set_ne (by omega)]; exact h.hl
  · rw [List.getElem?_set_ne (by omega)]; exact h.hc
end
theorem repl_I0 (n : Nat) : repl [AV.int .i64 0] n = (List.replicate n (0 : Int)).flatMap e1 := by
  induction n with
  | zero => rfl
  | succ n ih => rw [repl, ih, List.replicate_succ, List.flatMap_cons]; rfl
/-- To which plots all point. -/
def ptL (V : List (List Int)) (left : List Bool) : List Int := (List.range V.length).map (fun i => (pf V left i : Int))
theorem ptL_at {V : List (List Int)} {left : List Bool} {i : Nat} (hi : i < V.length) : (ptL V left)[i]? = some (pf V left i : Int) := by
  unfold ptL
  rw [List.getElem?_map, List.getElem?_range hi]
  rfl
theorem aw3 {ws : List (AV × List Int)} {v : AV} {A H : AHeap} {left : List Bool} {out : List Int} (hV : LL A v ws) (hs : Sz ws) (hR : RH A v H left out) :
    AW Try.prog m43p3 (fun e S1 H1 => e = .normal ∧ S1.length = 120 ∧ Has S1 [(1, .ptr (A.length + 2) 0), (3, .ptr (A.length + 4) 0), (5, .sl 1 H.length 0 ws.length true)] ∧ H1 = H ++ [.cells true ((List.replicate ws.length (0 : Int)).flatMap e1)])
      (mkS 120 [(1, .ptr (A.length + 2) 0), (3, .ptr (A.length + 4) 0)]) H := by
  have hsv := hs.v
  have hlim : (0 : Int) ≤ ws.length ∧ (ws.length : Int) ≤ ((lim : Nat) : Int) := by simp [lim]; omega
  have hle : (ws.length : Int) ≤ ws.length := Int.le_refl _
  simp (maxSteps := 4000000) -implicitDefEqProofs -dsimp (disch := omega) only [↓AW_ops, ↓AOps_nil, ↓AOps_pu, ↓AOps_ld, ↓AOps_ha, on_some, extK_app, pval, lval, hval_mks, rd_mkS, rd_mkS0, Nat.reduceBEq, Nat.reduceLT, mkS_len, put_mkS, beq_self_eq_true, eq_self, if_true, Bool.cond_true, Bool.cond_false, true_and, and_true, m43p3, hR.ldv, (hV.ls.mono hR.pre).len, hlim, hle, repl_I0, Int.toNat_natCast]
  simp [Has, rd_mkS]
theorem aw4 {ws : List (AV × List Int)} {v : AV} {A H : AHeap} {left : List Bool} {out : List Int} (hV : LL A v ws) (hs : Sz ws) (hg : gd (lists ws)) (hR : RH A v H left out) (hll : left.length = ws.length) (hex : ∃ j, j < ws.length ∧ bl left j = true) :
    AW Try.prog m43p4 (fun e S1 H1 => e = .normal ∧ S1.length = 120 ∧ Has S1 [(1, .ptr (A.length + 2) 0), (3, .ptr (A.length + 4) 0), (5, .sl 1 H.length 0 ws.length true)] ∧ H1 = H ++ [.cells true ((ptL (lists ws) left).flatMap e1)])
      (mkS 120 [(1, .ptr (A.length + 2) 0), (3, .ptr (A.length + 4) 0), (5, .sl 1 H.length 0 ws.length true)]) (H ++ [.cells true ((List.replicate ws.length (0 : Int)).flatMap e1)]) := by
  have hVl : (lists ws).length = ws.length := by simp
  have hsv := hs.v
  have hp0 := pre_app H [.cells true ((List.replicate ws.length (0 : Int)).flatMap e1)]
  simp (maxSteps := 4000000) -implicitDefEqProofs -dsimp (disch := omega) only [↓AW_ops, ↓AW_seq, ↓AW_block, ↓AOps_nil, ↓AOps_pu, ↓AOps_ld, on_some, ↓then_normal, pval, lval, rd_mkS, rd_mkS0, Nat.reduceBEq, Nat.reduceLT, rd_C, put_mkS, ↓AW_toLoop, beq_self_eq_true, if_true, Bool.cond_true, Bool.cond_false, m43p4, (hR.mono hp0).ldv, (hV.ls.mono (hR.pre.trans hp0)).len]
  refine LoopK.byS (fun x : Nat × List Int => x.1 ≤ ws.length ∧ x.2.length = ws.length ∧ ∀ j : Nat, j < x.1 → x.2[j]? = some (pf (lists ws) left j : Int)) (fun x => [(1, .ptr (A.length + 2) 0), (3, .ptr (A.length + 4) 0), (5, .sl 1 H.length 0 ws.length true), (33, v), (34, I ws.length), (35, I x.1)]) (fun x => H ++ [.cells true (x.2.flatMap e1)]) (fun x => ws.length - x.1) (0, List.replicate ws.length 0) ⟨Nat.zero_le _, by simp, fun j hj => by omega⟩ (by simp [Has, rd_mkS]) rfl ?_
  rintro ⟨i, pts⟩ ⟨hi, hpl, hpt⟩
  simp only at hi hpl hpt
  have hp := pre_app H [.cells true (pts.flatMap e1)]
  have hR1 := hR.mono hp
  have hV1 := hV.mono hR1.pre
  by_cases hlt : i < ws.length
  · obtain ⟨w, hz⟩ : ∃ z, ws[i]? = some z := ⟨_, List.getElem?_eq_getElem hlt⟩
    have hlt' : (i : Int) < ws.length := by omega
    have hwm := List.mem_of_getElem? hz
    have hrw : rw' (lists ws) (i : Int) = w.2 := by unfold rw'; rw [Int.toNat_natCast, ws_get hz]; rfl
    obtain ⟨j, g1, g2, g3, g4, g5, _⟩ := fsl_at hg (by rw [hVl]; exact hex) (i := i) (by rw [hVl]; exact hlt)
    rw [hrw] at g1 g2
    have hjl := (List.getElem?_eq_some_iff.1 g2).1
    have hwo := hg.2 _ (mem_lists hwm)
    have c41 := c_IndexFunc (hV1.inn w hwm) (hs.w w hwm) 45 [.ptr (A.length + 4) 0] (fun p => bl left p.toNat) (fun x hx => by
      have hxn := nums_in (isO_perm hwo) x hx
      obtain ⟨q, rfl⟩ : ∃ q : Nat, x = q := ⟨x.toNat, by omega⟩
      have hq : q < left.length := by omega
      have e : bl left ((q : Int)).toNat = left[q] := by unfold bl; rw [Int.toNat_natCast, List.getElem?_eq_getElem hq]; rfl
      rw [e]
      exact s45 hR1.oll.ls hR1.ldl (List.getElem?_eq_getElem hq))
    rw [g1] at c41
    have hol := OL.new_mk e1_len H pts true
    rw [hpl] at hol
    have hip : i < pts.length := by omega
    have hst := hol.st hip (I (pf (lists ws) left i : Int)) (pf (lists ws) left i : Int) rfl
    rw [set_new] at hst
    have hidx := hol.ls.idx (k := .i64) hip
    simp (maxSteps := 4000000) -implicitDefEqProofs -dsimp (disch := omega) only [↓AW_skip, ↓AW_ops, ↓AW_seq, ↓AW_cond, ↓AW_block, ↓AOps_nil, ↓AOps_pu, ↓AOps_ld, ↓AOps_call, on_some, condB_t, ↓then_normal, pval, lval, rd_mkS, rd_mkS0, Nat.reduceBEq, Nat.reduceLT, put_mkS, partA, beq_self_eq_true, eq_self, List.getElem?_cons_zero, List.drop_zero, List.take_succ_cons, List.take_nil, map_c, map_n, List.length_cons, List.length_nil, Nat.reduceLeDiff, Nat.zero_add, bin_lss, if_true, if_false, Bool.false_eq_true, decide_true, Bool.cond_true, Bool.cond_false, hlt', hV1.ls.idx hlt, hV1.ls.ld0 hz 1 false (by decide), e0]
    refine CallK.of c41 ?_
    simp (maxSteps := 4000000) -implicitDefEqProofs -dsimp (disch := omega) only [↓AW_ops, ↓AOps_nil, ↓AOps_pu, ↓AOps_ld, ↓AOps_ha, on_some, extK_false, extK_same, ↓then_normal, ↓inBlock_normal, pval, lval, hval_st, rd_mkS, rd_mkS0, Nat.reduceBEq, Nat.reduceLT, mkS_len, rd_C, put_mkS, putS_none, partA, beq_self_eq_true, eq_self, List.getElem?_cons_zero, List.drop_zero, List.take_succ_cons, List.take_nil, Option.map_some, List.length_cons, List.length_nil, Nat.reduceLeDiff, Nat.zero_add, bin_add, w64, if_true, if_false, Bool.false_eq_true, Bool.cond_true, Bool.cond_false, Go.Eng.e1, true_and, (hV1.inn w hwm).idx hjl, (hV1.inn w hwm).ld0 g2 1 false (by decide), e1, hidx, hst]
    refine ⟨(i + 1, pts.set i (pf (lists ws) left i : Int)), ⟨hlt, by simpa using hpl, fun k hk => ?_⟩, by simp [Has, rd_mkS], rfl, by simp only; omega⟩
    simp only at hk ⊢
    by_cases e : k = i
    · subst e; rw [List.getElem?_set_self hip]
    · rw [List.getElem?_set_ne (fun h => e h.symm)]; exact hpt k (by omega)
  · have hlt' : ¬ ((i : Int) < ws.length) := by omega
    simp (maxSteps := 4000000) -implicitDefEqProofs -dsimp (disch := omega) only [↓AW_ops, ↓AW_seq, ↓AW_cond, ↓AW_exit, ↓AOps_nil, ↓AOps_pu, on_some, condB_f, ↓then_normal, ↓then_exit, ↓inBlock_exit, pval, rd_mkS, rd_mkS0, Nat.reduceBEq, Nat.reduceLT, mkS_len, put_mkS, beq_self_eq_true, eq_self, bin_lss, if_true, decide_false, Bool.cond_true, Bool.cond_false, true_and, reduceCtorEq, hlt']
    refine ⟨by simp [Has, rd_mkS], ?_⟩
    have : pts = ptL (lists ws) left := by
      refine List.ext_getElem? (fun k => ?_)
      rcases Nat.lt_or_ge k ws.length with h | h
      · rw [hpt k (by omega), ptL_at (by rw [hVl]; exact h)]
      · rw [List.getElem?_eq_none (by omega), List.getElem?_eq_none (by unfold ptL; simp; omega)]
    rw [this]
theorem aw5 {A Hp : AHeap} {pv : AV} :
    AW Try.prog m43p5 (fun e S1 H1 => e = .normal ∧ S1.length = 120 ∧ Has S1 [(1, .ptr (A.length + 2) 0), (3, .ptr (A.length + 4) 0), (5, pv), (8, .nilS)] ∧ H1 = Hp)
      (mkS 120 [(1, .ptr (A.length + 2) 0), (3, .ptr (A.length + 4) 0), (5, pv)]) Hp := by
  simp (maxSteps := 4000000) -implicitDefEqProofs -dsimp (disch := omega) only [↓AW_ops, ↓AOps_nil, ↓AOps_pu, on_some, pval, mkS_len, rd_C, put_mkS, eq_self, true_and, and_true, m43p5]
  simp [Has, rd_mkS]
end Go.Proofs.Ytgidfejkfdkflaa

namespace Go.Proofs.Ytgidfejkfdkflaa
open Go Go.Eng
/-- A cycle in the making. -/
structure Cy (B H : AHeap) (cv : AV) (c : List Int) : Prop where
  pre : B <+: H
  ob : ∃ m full, cv = .sl 1 m 0 c.length full ∧ B.length ≤ m ∧ H[m]? = some (.cells true (c.flatMap e1))
theorem Cy.ls {B H : AHeap} {cv : AV} {c : List Int} (h : Cy B H cv c) : L1 H cv c := by
  obtain ⟨hp, m, full, rfl, hm, ho⟩ := h
  exact (OL.ls (A := B) ⟨e1_len, hp, hm, ho, full, rfl⟩)
theorem Cy.push {B H : AHeap} {cv : AV} {c : List Int} (h : Cy B H cv c) (z : Int) (hl : c.length ≤ 1000) : ∃ cv' H9, appA 1 (H ++ [.cells true [I z]]) cv (.sl 1 H.length 0 1 true) = some (cv', H9) ∧ Cy B H9 cv' (c ++ [z]) := by
  obtain ⟨hp, m, full, rfl, hm, ho⟩ := h
  have hfl := flatMap_length e1_len c
  have h1 : (H ++ [AObj.cells true [I z]])[m]? = some (.cells true (c.flatMap e1)) := pre_get (pre_app _ _) ho
  have h4 : slCells 1 (H ++ [AObj.cells true [I z]]) (.sl 1 H.length 0 1 true) = some (1, [I z]) := by simp [slCells, cellsAt]
  have h5 : (c.flatMap e1).take c.length = c.flatMap e1 := List.take_of_length_le (by omega)
  have h6 : c.length + 1 ≤ lim := by simp [lim]; omega
  have h7 : c.length ≤ (c.flatMap e1).length := by omega
  have hml := (List.getElem?_eq_some_iff.1 ho).1
  have hfm : (c ++ [z]).flatMap e1 = c.flatMap e1 ++ [I z] := by simp [e1]
  generalize c.flatMap e1 = L at *
  cases full with
  | true =>
    refine ⟨.sl 1 (H ++ [AObj.cells true [I z]]).length 0 (c.length + 1) false, H ++ [AObj.cells true [I z]] ++ [.cells true (L ++ [I z])], ?_, (hp.trans (pre_app _ _)).trans (pre_app _ _), (H ++ [AObj.cells true [I z]]).length, false, by simp, by simp; have := hp.length_le; omega, by rw [get_new, hfm]⟩
    simp [appA, h4, h1, h5, h6, h7]
  | false =>
    refine ⟨.sl 1 (H ++ [AObj.cells true [I z]]).length 0 (c.length + 1) false, (H ++ [AObj.cells true [I z]]).set m .dead ++ [.cells true (L ++ [I z])], ?_, (pre_set (hp.trans (pre_app _ _)) hm _).trans (pre_app _ _), (H ++ [AObj.cells true [I z]]).length, false, by simp, by simp; have := hp.length_le; omega, ?_⟩
    · simp [appA, h4, h1, h5, h6, h7]
    · rw [hfm, List.getElem?_append_right (by simp)]
      simp
theorem cz_mem {c : List Nat} {i : Nat} : (i : Int) ∈ cz c ↔ i ∈ c := by
  unfold cz
  rw [List.mem_map]
  constructor
  · rintro ⟨j, hj, e⟩
    have : j = i := by omega
    rwa [← this]
  · intro h
    exact ⟨i, h, rfl⟩
theorem cz_len (c : List Nat) : (cz c).length = c.length := by simp [cz]
set_option maxHeartbeats 8000000 in
theorem aw6 {ws : List (AV × List Int)} {v : AV} {A H : AHeap} {left : List Bool} {out : List Int} (hV : LL A v ws) (hs : Sz ws) (hg : gd (lists ws)) (hR : RH A v H left out) (hll : left.length = ws.length) (hex : ∃ j, j < ws.length ∧ bl left j = true) :
    ∃ x : AV × AHeap × List (AV × List Int) × List (List Nat), (Cs (lists ws).length (bl left) (pf (lists ws) left) x.2.2.2 ∧ x.2.2.2 ≠ [] ∧ x.2.2.2.length ≤ ws.length ∧ lists x.2.2.1 = x.2.2.2.map cz ∧ NL (H ++ [.cells true ((ptL (lists ws) left).flatMap e1)]) x.2.1 x.1 x.2.2.1) ∧
      AW Try.prog m43p6 (fun e S1 H1 => e = .normal ∧ S1.length = 120 ∧ Has S1 [(1, .ptr (A.length + 2) 0), (3, .ptr (A.length + 4) 0), (8, x.1)] ∧ H1 = x.2.1)
        (mkS 120 [(1, .ptr (A.length + 2) 0), (3, .ptr (A.length + 4) 0), (5, .sl 1 H.length 0 ws.length true), (8, .nilS)]) (H ++ [.cells true ((ptL (lists ws) left).flatMap e1)]) := by
  have hVl : (lists ws).length = ws.length := by simp
  have hn5 : 1 ≤ ws.length ∧ ws.length ≤ 5 := by have := hg.1; rwa [hVl] at this
  have hptl : (ptL (lists ws) left).length = ws.length := by unfold ptL; simp
  have hol := OL.new_mk e1_len H (ptL (lists ws) left) true
  rw [hptl] at hol
  have hpts0 := hol.ls
  have hR0 := hR.mono (pre_app H [AObj.cells true ((ptL (lists ws) left).flatMap e1)])
  generalize H ++ [AObj.cells true ((ptL (lists ws) left).flatMap e1)] = Hp at *
  have hA0 : 0 < A.length := hV.pos (by omega)
  have hHp0 : 0 < Hp.length := by have := hR0.len; omega
  have hf : ∀ i, i < (lists ws).length → pf (lists ws) left i < (lists ws).length ∧ bl left (pf (lists ws) left i) = true := fun i hi => by
    obtain ⟨_, _, _, _, h1, h2, _⟩ := fsl_at hg (by rw [hVl]; exact hex) hi
    exact ⟨h1, h2⟩
  have hper := per_ex (left := bl left) (fun i hi _ => hf i hi) (by rw [hVl]; exact hex)
  refine AW_exS (m := m43p6) (by rfl) (K := fun (x : AV × AHeap × List (AV × List Int) × List (List Nat)) S1 H1 => S1.length = 120 ∧ Has S1 [(1, .ptr (A.length + 2) 0), (3, .ptr (A.length + 4) 0), (8, x.1)] ∧ H1 = x.2.1) ?_
  simp (maxSteps := 4000000) -implicitDefEqProofs -dsimp (disch := omega) only [↓AW_ops, ↓AW_seq, ↓AW_block, ↓AOps_nil, ↓AOps_pu, ↓AOps_ld, on_some, ↓then_normal, pval, lval, rd_mkS, rd_mkS0, Nat.reduceBEq, Nat.reduceLT, rd_C, put_mkS, ↓AW_toLoop, beq_self_eq_true, if_true, Bool.cond_true, Bool.cond_false, ne_eq, m43p6, hR0.ldv, (hV.ls.mono hR0.pre).len]
  refine LoopK.byS (fun x : Nat × AV × AHeap × List (AV × List Int) × List (List Nat) => (x.1 ≤ ws.length ∧ x.2.2.2.2.length ≤ x.1) ∧ NL Hp x.2.2.1 x.2.1 x.2.2.2.1 ∧ lists x.2.2.2.1 = x.2.2.2.2.map cz ∧ Cs (lists ws).length (bl left) (pf (lists ws) left) x.2.2.2.2 ∧ ∀ j, j < x.1 → Per (lists ws).length (bl left) (pf (lists ws) left) j → ∃ c ∈ x.2.2.2.2, j ∈ c)
    (fun x => [(1, .ptr (A.length + 2) 0), (3, .ptr (A.length + 4) 0), (5, .sl 1 H.length 0 ws.length true), (8, x.2.1), (51, I ws.length), (52, I x.1)]) (fun x => x.2.2.1) (fun x => ws.length - x.1) (0, .nilS, Hp, [], []) ⟨⟨Nat.zero_le _, Nat.le_refl _⟩, NL.nil (List.prefix_refl _), rfl, Cs.nil _ _ _, fun j hj => by omega⟩ (by simp [Has, rd_mkS]) rfl ?_
  rintro ⟨i, y, Hc, wsC, cs⟩ ⟨⟨hi, hcl⟩, hn, hw, hcs, hcov⟩
  simp only at hi hcl hn hw hcs hcov
  by_cases hlt : i < ws.length
  case neg =>
    have hlt' : ¬ ((i : Int) < ws.length) := by omega
    have hii : i = ws.length := by omega
    simp (maxSteps := 4000000) -implicitDefEqProofs -dsimp (disch := omega) only [↓AW_ops, ↓AW_seq, ↓AW_cond, ↓AW_exit, ↓AOps_nil, ↓AOps_pu, on_some, condB_f, ↓then_normal, ↓then_exit, ↓inBlock_exit, pval, rd_mkS, rd_mkS0, Nat.reduceBEq, Nat.reduceLT, mkS_len, put_mkS, beq_self_eq_true, eq_self, bin_lss, if_true, decide_false, Bool.cond_true, Bool.cond_false, true_and, reduceCtorEq, hlt']
    refine ⟨(y, Hc, wsC, cs), ⟨hcs, fun e => ?_, by simp only; omega, hw, hn⟩, by simp [Has, rd_mkS], rfl⟩
    simp only at e
    subst e
    obtain ⟨j, hj1, _, hj3⟩ := hper
    obtain ⟨c, hc, _⟩ := hcov j (by omega) hj3
    cases hc
  have hlt' : (i : Int) < ws.length := by omega
  have hpc := hn.acc.1
  have hps : Hc <+: Hc ++ [AObj.cells true [I (i : Int)]] := pre_app _ _
  have hst0 : stA 1 (.ptr Hc.length 0) (I (i : Int)) (Hc ++ [AObj.cells true [AV.int .i64 0]]) = some (Hc ++ [AObj.cells true [I (i : Int)]]) := by simp [stA, AV.cells?, splice]
  have hbi : ldA 1 false (.ptr Hc.length 0) (Hc ++ [AObj.cells true [I (i : Int)]]) = some (I (i : Int)) := by simp [ldA, partA]
  have hRs := hR0.mono (hpc.trans hps)
  have hnS := hn.mono hps
  have hil : i < left.length := by omega
  have hli : left[i]? = some (bl left i) := by unfold bl; rw [List.getElem?_eq_getElem hil]; rfl
  have hwsl : wsC.length = cs.length := by have := congrArg List.length hw; simpa using this
  have hnext : ∀ (y' : AV) (H' : AHeap) (ws' : List (AV × List Int)) (cs' : List (List Nat)), cs'.length ≤ cs.length + 1 → NL Hp H' y' ws' → lists ws' = cs'.map cz → Cs (lists ws).length (bl left) (pf (lists ws) left) cs' → (∀ c ∈ cs, c ∈ cs') → (Per (lists ws).length (bl left) (pf (lists ws) left) i → ∃ c ∈ cs', i ∈ c) →
      (i + 1 ≤ ws.length ∧ cs'.length ≤ i + 1) ∧ NL Hp H' y' ws' ∧ lists ws' = cs'.map cz ∧ Cs (lists ws).length (bl left) (pf (lists ws) left) cs' ∧ ∀ j, j < i + 1 → Per (lists ws).length (bl left) (pf (lists ws) left) j → ∃ c ∈ cs', j ∈ c := fun y' H' ws' cs' h1 h2 h3 h4 h5 h6 => by
    refine ⟨⟨hlt, by omega⟩, h2, h3, h4, fun j hj hp => ?_⟩
    by_cases e : j = i
    · subst e; exact h6 hp
    · obtain ⟨c, hc, hjc⟩ := hcov j (by omega) hp
      exact ⟨c, h5 c hc, hjc⟩
  by_cases hb : bl left i = true
  case neg =>
    have hb' : bl left i = false := by simpa using hb
    rw [hb'] at hli
    simp (maxSteps := 4000000) -implicitDefEqProofs -dsimp (disch := omega) only [↓AW_skip, ↓AW_ops, ↓AW_seq, ↓AW_cond, ↓AW_block, ↓AW_exit, ↓AOps_nil, ↓AOps_pu, ↓AOps_ld, ↓AOps_ha, ↓AOps_guard, on_some, extK_false, extK_app, guardB_tf, skipS_some, condB_t, ↓then_normal, ↓then_exit, ↓inBlock_exit, pval, lval, hval_st, hval_newv, rd_mkS, rd_mkS0, Nat.reduceBEq, Nat.reduceLT, mkS_len, rd_C, put_mkS, putS_none, cells_int, partA, beq_self_eq_true, eq_self, List.getElem?_cons_zero, List.drop_zero, List.take_succ_cons, List.take_nil, Option.map_some, List.length_cons, List.length_nil, Nat.reduceLeDiff, Nat.reduceEqDiff, Nat.zero_add, bin_add, bin_lss, w64, if_true, if_false, Bool.false_eq_true, Bool.not_false, decide_true, Bool.cond_true, Bool.cond_false, true_and, reduceCtorEq, hlt', hst0, hbi, hRs.ldl, hRs.oll.ls.idx hil, hRs.oll.ls.ld0 hli 1 false (by decide), eb]
    refine ⟨(i + 1, y, _, wsC, cs), hnext y _ wsC cs (by omega) hnS hw hcs (fun c hc => hc) (fun hp => ?_), by simp [Has, rd_mkS], rfl, by simp only; omega⟩
    obtain ⟨D, d1, d2, _, _⟩ := hp
    exact absurd (d2 i d1).2 hb
  rw [hb] at hli
  have c21 := s21 hnS.ll (by omega) 46 [.ptr Hc.length 0] (fun c => decide ((i : Int) ∈ c)) (fun x hx => s46 (hnS.ll.inn x hx) (by
    have : x.2 ∈ cs.map cz := by rw [← hw]; exact mem_lists hx
    obtain ⟨c, hc, e⟩ := List.mem_map.1 this
    obtain ⟨i1, x1, k1, k2, k3, k4⟩ := hcs.cyc c hc
    have := sub_len c (List.range (lists ws).length) k1.nd (fun y hy => List.mem_range.2 (k4 y hy).1)
    rw [← e, cz_len]
    rw [List.length_range] at this
    omega) hbi)
  by_cases hin : ∃ c ∈ cs, i ∈ c
  · have hany : (lists wsC).any (fun c => decide ((i : Int) ∈ c)) = true := by
      obtain ⟨c, hc, hic⟩ := hin
      rw [hw]
      exact List.any_eq_true.2 ⟨cz c, List.mem_map_of_mem hc, by simpa using cz_mem.2 hic⟩
    rw [hany] at c21
    simp (maxSteps := 4000000) -implicitDefEqProofs -dsimp (disch := omega) only [↓AW_skip, ↓AW_ops, ↓AW_seq, ↓AW_cond, ↓AW_block, ↓AOps_nil, ↓AOps_pu, ↓AOps_ld, ↓AOps_ha, ↓AOps_call, ↓AOps_guard, on_some, extK_false, extK_app, guardB_ff, condB_t, ↓then_normal, pval, lval, hval_st, hval_newv, rd_mkS, rd_mkS0, Nat.reduceBEq, Nat.reduceLT, rd_C, put_mkS, putS_none, cells_int, partA, beq_self_eq_true, eq_self, List.getElem?_cons_zero, List.drop_zero, List.take_succ_cons, List.take_nil, Option.map_some, map_c, map_n, List.length_cons, List.length_nil, Nat.reduceLeDiff, Nat.zero_add, bin_lss, if_true, if_false, Bool.false_eq_true, Bool.not_true, decide_true, Bool.cond_true, Bool.cond_false, hlt', hst0, hbi, hRs.ldl, hRs.oll.ls.idx hil, hRs.oll.ls.ld0 hli 1 false (by decide), eb]
    refine CallK.of c21 ?_
    simp (maxSteps := 4000000) -implicitDefEqProofs -dsimp (disch := omega) only [↓AW_ops, ↓AW_cond, ↓AW_exit, ↓AOps_nil, ↓AOps_pu, on_some, extK_same, condB_t, ↓then_normal, ↓then_exit, ↓inBlock_exit, pval, rd_mkS, rd_mkS0, Nat.reduceBEq, Nat.reduceLT, mkS_len, rd_C, put_mkS, putS_none, beq_self_eq_true, eq_self, Nat.reduceEqDiff, bin_add, w64, if_true, if_false, Bool.false_eq_true, Bool.cond_true, Bool.cond_false, true_and, reduceCtorEq]
    exact ⟨(i + 1, y, _, wsC, cs), hnext y _ wsC cs (by omega) hnS hw hcs (fun c hc => hc) (fun _ => hin), by simp [Has, rd_mkS], rfl, by simp only; omega⟩
  have hany : (lists wsC).any (fun c => decide ((i : Int) ∈ c)) = false := by
    rw [List.any_eq_false]
    intro c hc
    rw [hw] at hc
    obtain ⟨c', hc', rfl⟩ := List.mem_map.1 hc
    intro h
    exact hin ⟨c', hc', cz_mem.1 (by simpa using h)⟩
  rw [hany] at c21
  have hpts : ∀ {H' : AHeap}, Hp <+: H' → L1 H' (.sl 1 H.length 0 ws.length true) (ptL (lists ws) left) := fun hp => hpts0.mono hp
  have hiV : i < (lists ws).length := by omega
  have hpi := ptL_at (V := lists ws) (left := left) hiV
  simp (maxSteps := 4000000) -implicitDefEqProofs -dsimp (disch := omega) only [↓AW_skip, ↓AW_ops, ↓AW_seq, ↓AW_cond, ↓AW_block, ↓AOps_nil, ↓AOps_pu, ↓AOps_ld, ↓AOps_ha, ↓AOps_call, ↓AOps_guard, on_some, extK_false, extK_app, guardB_ff, condB_t, ↓then_normal, pval, lval, hval_st, hval_newv, rd_mkS, rd_mkS0, Nat.reduceBEq, Nat.reduceLT, rd_C, put_mkS, putS_none, cells_int, partA, beq_self_eq_true, eq_self, List.getElem?_cons_zero, List.drop_zero, List.take_succ_cons, List.take_nil, Option.map_some, map_c, map_n, List.length_cons, List.length_nil, Nat.reduceLeDiff, Nat.zero_add, bin_lss, if_true, if_false, Bool.false_eq_true, Bool.not_true, decide_true, Bool.cond_true, Bool.cond_false, hlt', hst0, hbi, hRs.ldl, hRs.oll.ls.idx hil, hRs.oll.ls.ld0 hli 1 false (by decide), eb]
  refine CallK.of c21 ?_
  generalize hHs : Hc ++ [AObj.cells true [I (i : Int)]] = Hs at *
  have hpS : Hp <+: Hs := hpc.trans hps
  have hip : i < (ptL (lists ws) left).length := by omega
  have hq1 := hpts (hpS.trans (pre_app Hs [AObj.cells true [I (i : Int)]]))
  have hbi2 := ld_mono (pre_app Hs [AObj.cells true [I (i : Int)]]) hbi
  simp (maxSteps := 4000000) -implicitDefEqProofs -dsimp (disch := omega) only [↓AW_skip, ↓AW_ops, ↓AW_seq, ↓AW_cond, ↓AW_block, ↓AOps_nil, ↓AOps_pu, ↓AOps_ld, ↓AOps_ha, on_some, extK_app, extK_same, condB_f, ↓then_normal, pval, lval, hval_blds, rd_mkS, rd_mkS0, Nat.reduceBEq, Nat.reduceLT, rd_C, put_mkS, putS_none, ↓AW_toLoop, cells_int, splice, partA, fillA, repl, beq_self_eq_true, eq_self, List.getElem?_cons_zero, List.drop_zero, List.drop_succ_cons, List.drop_nil, List.take_zero, List.take_succ_cons, List.take_nil, map_c, map_n, List.length_cons, List.length_nil, Nat.reduceLeDiff, Nat.zero_add, List.nil_append, List.append_nil, if_true, if_false, Bool.false_eq_true, Bool.cond_true, Bool.cond_false, Go.Eng.e1, and_true, hbi, hbi2, repl, hq1.idx hip, hq1.ld0 hpi 1 false (by decide), e1]
  have hcy0 : Cy Hs (Hs ++ [AObj.cells true [I (i : Int)]]) (.sl 1 Hs.length 0 1 true) (cz [i]) := ⟨pre_app _ _, Hs.length, true, by simp [cz], Nat.le_refl _, by rw [get_new]; rfl⟩
  refine LoopK.byS (fun x : List Nat × Nat × AV × AHeap => Pth (pf (lists ws) left) i x.1 ∧ x.1.getLast? = some x.2.1 ∧ (∀ y ∈ x.1, y < (lists ws).length ∧ bl left y = true) ∧ Cy Hs x.2.2.2 x.2.2.1 (cz x.1))
    (fun x => [(1, .ptr (A.length + 2) 0), (3, .ptr (A.length + 4) 0), (5, .sl 1 H.length 0 ws.length true), (8, y), (9, .ptr Hc.length 0), (10, x.2.2.1), (11, I (pf (lists ws) left x.2.1 : Int)), (51, I ws.length), (52, I i)]) (fun x => x.2.2.2) (fun x => ws.length - x.1.length) ([i], i, _, _) ⟨⟨by simp, rfl, fun k a b ha hb => by
      have := (List.getElem?_eq_some_iff.1 hb).1
      simp at this⟩, rfl, fun y hy => by
      have : y = i := by simpa using hy
      rw [this]; exact ⟨hiV, hb⟩, hcy0⟩ (by simp [Has, rd_mkS]) rfl ?_
  rintro ⟨c, x, cv, H8⟩ ⟨hpth, hlast, hcin, hcy⟩
  simp only at hpth hlast hcin hcy
  have hxm : x ∈ c := List.mem_of_getLast? hlast
  have hcle : c.length ≤ ws.length := by
    have := sub_len c (List.range (lists ws).length) hpth.nd (fun y hy => List.mem_range.2 (hcin y hy).1)
    rw [List.length_range] at this
    omega
  have hczl := cz_len c
  have hfx := hf x (hcin x hxm).1
  by_cases hmem : pf (lists ws) left x ∈ c
  case neg =>
    have hmem' : ¬ ((pf (lists ws) left x : Nat) : Int) ∈ cz c := fun e => hmem (cz_mem.1 e)
    obtain ⟨cv', H9, happ, hcy'⟩ := hcy.push (pf (lists ws) left x : Int) (by omega)
    have hfxp := ptL_at (V := lists ws) (left := left) hfx.1
    have hfl : pf (lists ws) left x < (ptL (lists ws) left).length := by omega
    have hq9 := hpts (hpS.trans hcy'.pre)
    simp (maxSteps := 4000000) -implicitDefEqProofs -dsimp (disch := omega) only [↓AW_ops, ↓AW_seq, ↓AOps_pu, ↓AOps_call, on_some, pval, rd_mkS, rd_mkS0, Nat.reduceBEq, Nat.reduceLT, put_mkS, beq_self_eq_true, map_c, map_n, if_true, Bool.cond_true, Bool.cond_false]
    refine CallK.of (c_Contains hcy.ls (by omega) _) ?_
    simp (maxSteps := 4000000) -implicitDefEqProofs -dsimp (disch := omega) only [↓AW_skip, ↓AW_ops, ↓AW_seq, ↓AW_cond, ↓AW_block, ↓AOps_nil, ↓AOps_pu, ↓AOps_ld, ↓AOps_ha, on_some, extK_false, extK_app, extK_same, condB_t, ↓then_normal, ↓inBlock_normal, pval, lval, hval_blds, hval_app, rd_mkS, rd_mkS0, Nat.reduceBEq, Nat.reduceLT, mkS_len, put_mkS, cells_int, splice, partA, fillA, repl, beq_self_eq_true, eq_self, List.getElem?_cons_zero, List.drop_zero, List.drop_succ_cons, List.drop_nil, List.take_zero, List.take_succ_cons, List.take_nil, map_c, map_n, List.length_cons, List.length_nil, Nat.reduceLeDiff, Nat.zero_add, List.nil_append, List.append_nil, if_true, if_false, Bool.false_eq_true, Bool.not_false, decide_false, Bool.cond_true, Bool.cond_false, Go.Eng.e1, true_and, and_true, hmem', repl, happ, hq9.idx hfl, hq9.ld0 hfxp 1 false (by decide), e1]
    have hpush := hpth.push hlast hmem
    refine ⟨(c ++ [pf (lists ws) left x], pf (lists ws) left x, cv', H9), ⟨hpush, by simp, fun z hz => ?_, by simpa [cz] using hcy'⟩, by simp [Has, rd_mkS], rfl, ?_⟩
    · rcases List.mem_append.1 hz with h | h
      · exact hcin z h
      · have : z = pf (lists ws) left x := by simpa using h
        rw [this]; exact hfx
    · have := sub_len _ (List.range (lists ws).length) hpush.nd (fun z hz => List.mem_range.2 (by
        rcases List.mem_append.1 hz with h | h
        · exact (hcin z h).1
        · have : z = pf (lists ws) left x := by simpa using h
          rw [this]; exact hfx.1))
      simp only [List.length_append, List.length_cons, List.length_nil, List.length_range] at this ⊢
      omega
  have hmem' : ((pf (lists ws) left x : Nat) : Int) ∈ cz c := cz_mem.2 hmem
  have hc0 : 0 < c.length := List.length_pos_iff.2 hpth.ne
  have hk0 : (0 : Int) ≤ ((cz c).length : Int) - 1 := by omega
  have hk1 : ((cz c).length : Int) - 1 < (cz c).length := by omega
  have hkl : (cz c)[(((cz c).length : Int) - 1).toNat]? = some (x : Int) := by
    rw [List.getLast?_eq_getElem?] at hlast
    rw [show (((cz c).length : Int) - 1).toNat = c.length - 1 by omega]
    exact cz_get hlast
  have hxV := (hcin x hxm).1
  have hxp := ptL_at (V := lists ws) (left := left) hxV
  have hxl : x < (ptL (lists ws) left).length := by omega
  have hq8 := hpts (hpS.trans hcy.pre)
  have hb8 := ld_mono hcy.pre hbi
  have hn8 := hnS.mono hcy.pre
  simp (maxSteps := 4000000) -implicitDefEqProofs -dsimp (disch := omega) only [↓AW_ops, ↓AW_seq, ↓AOps_pu, ↓AOps_call, on_some, pval, rd_mkS, rd_mkS0, Nat.reduceBEq, Nat.reduceLT, put_mkS, beq_self_eq_true, map_c, map_n, if_true, Bool.cond_true, Bool.cond_false]
  refine CallK.of (c_Contains hcy.ls (by omega) _) ?_
  by_cases hback : pf (lists ws) left x = i
  · have hback' : ((pf (lists ws) left x : Nat) : Int) = (i : Int) := by omega
    have hmem2 : (i : Int) ∈ cz c := by rw [← hback']; exact hmem'
    obtain ⟨m, full, hcv, hm, hob⟩ := hcy.ob
    have hSl : Hs.length = Hc.length + 1 := by rw [← hHs]; simp
    have hSp := hpS.length_le
    obtain ⟨v9, H9, happ, hn9⟩ := hn8.push (cv, cz c) (.inr ⟨m, full, [], hcv, by omega, by rw [List.append_nil]; exact hob, nm_ne_nil hnS hm hHp0, fun z hz => (hnS.lt.1 z hz).imp id (fun h => by omega)⟩) (by simp [lim]; omega)
    simp only at happ
    have hcvc : cv.cells? = some [cv] := by rw [hcv]; rfl
    simp (maxSteps := 4000000) -implicitDefEqProofs -dsimp (disch := omega) only [↓AW_ops, ↓AW_seq, ↓AW_cond, ↓AW_exit, ↓AOps_nil, ↓AOps_pu, ↓AOps_ld, ↓AOps_ha, on_some, extK_false, extK_app, extK_same, condB_t, condB_f, ↓then_normal, ↓then_exit, ↓inBlock_normal, ↓inBlock_exit, pval, lval, hval_blds, hval_app, rd_mkS, rd_mkS0, Nat.reduceBEq, Nat.reduceLT, mkS_len, rd_C, put_mkS, splice, partA, fillA, repl, beq_self_eq_true, eq_self, List.getElem?_cons_zero, List.drop_zero, List.drop_succ_cons, List.drop_nil, List.take_zero, List.take_succ_cons, List.take_nil, map_c, map_n, List.length_cons, List.length_nil, Nat.reduceLeDiff, Nat.reduceEqDiff, Nat.zero_add, List.nil_append, List.append_nil, bin_add, bin_sub, bin_eql, w64, if_true, if_false, Bool.false_eq_true, Bool.not_true, decide_true, Bool.cond_true, Bool.cond_false, Go.Eng.e1, true_and, and_true, reduceCtorEq, hmem2, hcy.ls.len, hcy.ls.idxI hk0 hk1, hcy.ls.ld0 hkl 1 false (by decide), e1, hq8.idx hxl, hq8.ld0 hxp 1 false (by decide), hb8, hback', repl, hcvc, happ]
    refine ⟨(i + 1, v9, H9, wsC ++ [(cv, cz c)], cs ++ [c]), hnext v9 H9 (wsC ++ [(cv, cz c)]) (cs ++ [c]) (by simp) hn9 (by simp [lists] at hw ⊢; exact hw) (hcs.push (fun d hd hid => hin ⟨d, hd, hid⟩) hpth hlast hback hcin) (fun d hd => by simp [hd]) (fun _ => ⟨c, by simp, List.mem_of_getElem? hpth.h0⟩), by simp [Has, rd_mkS], rfl, by simp only; omega⟩
  · have hback' : ¬ ((pf (lists ws) left x : Nat) : Int) = (i : Int) := by omega
    simp (maxSteps := 4000000) -implicitDefEqProofs -dsimp (disch := omega) only [↓AW_skip, ↓AW_ops, ↓AW_seq, ↓AW_cond, ↓AW_exit, ↓AOps_nil, ↓AOps_pu, ↓AOps_ld, on_some, extK_same, condB_f, ↓then_normal, ↓then_exit, ↓inBlock_normal, ↓inBlock_exit, pval, lval, rd_mkS, rd_mkS0, Nat.reduceBEq, Nat.reduceLT, mkS_len, rd_C, put_mkS, partA, beq_self_eq_true, eq_self, List.getElem?_cons_zero, List.drop_zero, List.take_succ_cons, List.take_nil, List.length_cons, List.length_nil, Nat.reduceLeDiff, Nat.reduceEqDiff, Nat.zero_add, bin_add, bin_sub, bin_eql, w64, if_true, if_false, Bool.false_eq_true, Bool.not_true, decide_true, decide_false, Bool.cond_true, Bool.cond_false, Go.Eng.e1, true_and, reduceCtorEq, hmem', hcy.ls.len, hcy.ls.idxI hk0 hk1, hcy.ls.ld0 hkl 1 false (by decide), e1, hq8.idx hxl, hq8.ld0 hxp 1 false (by decide), hb8, hback']
    refine ⟨(i + 1, y, H8, wsC, cs), hnext y _ wsC cs (by omega) hn8 hw hcs (fun d hd => hd) (fun hp => ?_), by simp [Has, rd_mkS], rfl, by simp only; omega⟩
    obtain ⟨D, d1, d2, d3, d4⟩ := hp
    exact absurd (hpth.back (D := fun z => z ∈ D) d1 d3 (fun a b ha hb => d4 a ha b hb) hlast hmem) hback
end Go.Proofs.Ytgidfejkfdkflaa

namespace Go.Proofs.Ytgidfejkfdkflaa
open Go Go.Eng
/-- selion/swap.trade [] -/
def m20p0 : MCode :=
 .ops [⟨(some 2), some undefA, none, false, .pu (.mov (.c (.nilS)))⟩]
/-- selion/swap.trade [] -/
def m20p1 : MCode :=
 .ops [⟨(some 9), some undefA, none, false, .pu (.mov (.s 0))⟩,
   ⟨(some 10), some undefA, none, false, .pu (.len (.s 9))⟩,
   ⟨(some 11), some undefA, none, false, .ha (.mks 1 [.int .i64 0] (.s 10) (.s 10))⟩,
   ⟨(some 3), some undefA, none, false, .ha (.newv (.c (.nilS)))⟩,
   ⟨none, some undefA, none, false, .ha (.st 1 (.s 3) (.s 11))⟩]
/-- selion/swap.trade [] -/
def m20p2 : MCode :=
 .ops [⟨(some 12), some undefA, none, false, .pu (.mov (.s 0))⟩,
   ⟨(some 13), some undefA, none, false, .call 33 [(.s 12)]⟩]
/-- selion/swap.trade [] -/
def m20p3 : MCode :=
 .ops [⟨(some 4), some undefA, none, false, .pu (.mov (.s 14))⟩]
/-- selion/swap.trade [loop [3, 15, 16, 17], loop [3, 6, 15, 16, 17, 21, 22, 23]] -/
def m20p4 : MCode :=
 .block 1 (.seq (.ops [⟨(some 15), some undefA, none, false, .pu (.mov (.s 4))⟩,
    ⟨(some 16), some undefA, none, false, .pu (.len (.s 15))⟩,
    ⟨(some 17), some undefA, none, false, .pu (.mov (.c (.int .i64 0)))⟩])
  (.block 2 (.loop (.seq (.ops [⟨(some 18), some undefA, none, false, .pu (.bin .lss (.s 17) (.s 16))⟩])
    (.seq (.cond (.s 18) (.skip)
    (.exit 2))
    (.seq (.block 3 (.seq (.ops [⟨(some 19), some undefA, none, false, .pu (.idx 1 (.s 15) (.s 17))⟩,
       ⟨(some 20), some undefA, none, false, .ld (.ld 1 false (.s 19))⟩,
       ⟨(some 6), some undefA, none, false, .pu (.mov (.s 20))⟩])
     (.seq (.ops [⟨(some 21), some undefA, none, false, .pu (.mov (.s 6))⟩,
       ⟨(some 22), some undefA, none, false, .pu (.len (.s 21))⟩,
       ⟨(some 23), some undefA, none, false, .pu (.mov (.c (.int .i64 0)))⟩])
     (.block 4 (.loop (.seq (.ops [⟨(some 24), some undefA, none, false, .pu (.bin .lss (.s 23) (.s 22))⟩])
       (.seq (.cond (.s 24) (.skip)
       (.exit 4))
       (.seq (.block 5 (.seq (.ops [⟨(some 25), some undefA, none, false, .pu (.mov (.s 23))⟩,
          ⟨(some 26), some undefA, none, false, .pu (.idx 1 (.s 21) (.s 23))⟩,
          ⟨(some 27), some undefA, none, false, .ld (.ld 1 false (.s 26))⟩,
          ⟨(some 7), some undefA, none, false, .pu (.mov (.s 25))⟩,
          ⟨(some 8), some undefA, none, false, .pu (.mov (.s 27))⟩])
        (.ops [⟨(some 28), some undefA, none, true, .ld (.ld 1 false (.s 3))⟩,
          ⟨(some 29), some undefA, none, true, .pu (.mov (.s 8))⟩,
          ⟨(some 30), some undefA, none, true, .pu (.mov (.s 6))⟩,
          ⟨(some 31), some undefA, none, true, .pu (.mov (.s 7))⟩,
          ⟨(some 32), some undefA, none, true, .pu (.bin .add (.s 31) (.c (.int .i64 1)))⟩,
          ⟨(some 33), some undefA, none, true, .pu (.mov (.s 6))⟩,
          ⟨(some 34), some undefA, none, true, .pu (.len (.s 33))⟩,
          ⟨(some 35), some undefA, none, true, .pu (.bin .rem (.s 32) (.s 34))⟩,
          ⟨(some 36), some undefA, none, true, .pu (.idx 1 (.s 30) (.s 35))⟩,
          ⟨(some 37), some undefA, none, true, .ld (.ld 1 false (.s 36))⟩,
          ⟨(some 38), some undefA, none, false, .pu (.idx 1 (.s 28) (.s 29))⟩,
          ⟨none, some undefA, none, false, .ha (.st 1 (.s 38) (.s 37))⟩])))
       (.ops [⟨(some 39), some undefA, none, false, .pu (.bin .add (.s 23) (.c (.int .i64 1)))⟩,
         ⟨(some 23), some undefA, none, false, .pu (.mov (.s 39))⟩])))))))))
    (.ops [⟨(some 40), some undefA, none, false, .pu (.bin .add (.s 17) (.c (.int .i64 1)))⟩,
      ⟨(some 17), some undefA, none, false, .pu (.mov (.s 40))⟩])))))))
theorem set_eqO {H : AHeap} {n : Nat} {o : AObj} (h : H[n]? = some o) : H.set n o = H := by
  obtain ⟨h1, h2⟩ := List.getElem?_eq_some_iff.1 h
  rw [← h2, List.set_getElem_self]
theorem aw7 {A Hp Hc : AHeap} {v y : AV} {left : List Bool} {out : List Int} {wc : List (AV × List Int)} (hR : RH A v Hc left out) (hHp : A.length + 5 ≤ Hp.length) (hn : NL Hp Hc y wc) (hwl : wc.length ≤ 1000) (hrl : ∀ w ∈ wc, w.2.length ≤ 1000) (hin : ∀ w ∈ wc, ∀ i ∈ w.2, 0 ≤ i ∧ i < left.length) :
    AW Try.prog m43p7 (fun e S1 H1 => e = .normal ∧ S1.length = 120 ∧ Has S1 [(1, .ptr (A.length + 2) 0), (3, .ptr (A.length + 4) 0), (8, y)] ∧ H1 = Hc.set (A.length + 3) (.cells true ((mL (lists wc) left (lists wc).length).flatMap eb)))
      (mkS 120 [(1, .ptr (A.length + 2) 0), (3, .ptr (A.length + 4) 0), (8, y)]) Hc := by
  have hwv : (lists wc).length = wc.length := by simp
  have hLL : ∀ o : AObj, LL (Hc.set (A.length + 3) o) y wc := fun o => hn.keepLL (by rw [List.length_set]; exact hn.acc.1.length_le) (fun k ob hk h => by rw [List.getElem?_set_ne (by omega)]; exact h)
  simp (maxSteps := 4000000) -implicitDefEqProofs -dsimp (disch := omega) only [↓AW_ops, ↓AW_seq, ↓AW_block, ↓AOps_nil, ↓AOps_pu, on_some, ↓then_normal, pval, rd_mkS, rd_mkS0, Nat.reduceBEq, Nat.reduceLT, rd_C, put_mkS, ↓AW_toLoop, beq_self_eq_true, if_true, Bool.cond_true, Bool.cond_false, m43p7, hn.ll.ls.len]
  refine LoopK.byS (fun j : Nat => j ≤ wc.length) (fun j => [(1, .ptr (A.length + 2) 0), (3, .ptr (A.length + 4) 0), (8, y), (99, y), (100, I wc.length), (101, I j)]) (fun j => Hc.set (A.length + 3) (.cells true ((mL (lists wc) left j).flatMap eb))) (fun j => wc.length - j) 0 (Nat.zero_le _) (by simp [Has, rd_mkS]) (set_eqO hR.hl).symm ?_
  intro j hj
  by_cases hlt : j < wc.length
  · obtain ⟨w, hz⟩ : ∃ z, wc[j]? = some z := ⟨_, List.getElem?_eq_getElem hlt⟩
    have hlt' : (j : Int) < wc.length := by omega
    have hwm := List.mem_of_getElem? hz
    have hwl1 := hrl w hwm
    have hLj := hLL (.cells true ((mL (lists wc) left j).flatMap eb))
    have hget : (lists wc)[j]? = some w.2 := ws_get hz
    simp (maxSteps := 4000000) -implicitDefEqProofs -dsimp (disch := omega) only [↓AW_skip, ↓AW_ops, ↓AW_seq, ↓AW_cond, ↓AW_block, ↓AOps_nil, ↓AOps_pu, ↓AOps_ld, on_some, condB_t, ↓then_normal, pval, lval, rd_mkS, rd_mkS0, Nat.reduceBEq, Nat.reduceLT, rd_C, put_mkS, ↓AW_toLoop, partA, beq_self_eq_true, eq_self, List.getElem?_cons_zero, List.drop_zero, List.take_succ_cons, List.take_nil, List.length_cons, List.length_nil, Nat.reduceLeDiff, Nat.zero_add, bin_lss, if_true, if_false, Bool.false_eq_true, decide_true, Bool.cond_true, Bool.cond_false, hlt', hLj.ls.idx hlt, hLj.ls.ld0 hz 1 false (by decide), e0, (hLj.inn w hwm).len]
    refine LoopK.byS (fun m : Nat => m ≤ w.2.length) (fun m => [(1, .ptr (A.length + 2) 0), (3, .ptr (A.length + 4) 0), (8, y), (99, y), (100, I wc.length), (101, I j), (105, w.1), (106, I w.2.length), (107, I m)]) (fun m => Hc.set (A.length + 3) (.cells true ((mC w.2 (mL (lists wc) left j) m).flatMap eb))) (fun m => w.2.length - m) 0 (Nat.zero_le _) (by simp [Has, rd_mkS]) rfl ?_
    intro m hm
    by_cases hlt2 : m < w.2.length
    · obtain ⟨i, hi⟩ : ∃ i, w.2[m]? = some i := ⟨_, List.getElem?_eq_getElem hlt2⟩
      have hlt2' : (m : Int) < w.2.length := by omega
      obtain ⟨i0, i1⟩ := hin w hwm i (List.mem_of_getElem? hi)
      obtain ⟨q, rfl⟩ : ∃ q : Nat, i = q := ⟨i.toNat, by omega⟩
      have hLm := hLL (.cells true ((mC w.2 (mL (lists wc) left j) m).flatMap eb))
      have hlen : (mC w.2 (mL (lists wc) left j) m).length = left.length := by rw [mC_len, mL_len]
      have hRm := hR.setL hlen
      have hq : q < (mC w.2 (mL (lists wc) left j) m).length := by omega
      have hst := hRm.oll.st hq (.bool false) false rfl
      rw [List.set_set] at hst
      have hmc : mC w.2 (mL (lists wc) left j) (m + 1) = (mC w.2 (mL (lists wc) left j) m).set q false := by rw [mC, hi]; rfl
      have hcm := hLm.inn w hwm
      simp (maxSteps := 4000000) -implicitDefEqProofs -dsimp (disch := omega) only [↓AW_skip, ↓AW_ops, ↓AW_seq, ↓AW_cond, ↓AW_block, ↓AOps_nil, ↓AOps_pu, ↓AOps_ld, ↓AOps_ha, on_some, extK_false, condB_t, ↓then_normal, ↓inBlock_normal, pval, lval, hval_st, rd_mkS, rd_mkS0, Nat.reduceBEq, Nat.reduceLT, mkS_len, rd_C, put_mkS, putS_none, partA, beq_self_eq_true, eq_self, List.getElem?_cons_zero, List.drop_zero, List.take_succ_cons, List.take_nil, Option.map_some, List.length_cons, List.length_nil, Nat.reduceLeDiff, Nat.zero_add, bin_add, bin_lss, w64, if_true, if_false, Bool.false_eq_true, decide_true, Bool.cond_true, Bool.cond_false, Go.Eng.e1, true_and, hlt2', hcm.idx hlt2, hcm.ld0 hi 1 false (by decide), e1, hRm.ldl, hRm.oll.ls.idx hq, hst]
      exact ⟨m + 1, hlt2, by simp [Has, rd_mkS], by rw [hmc], by omega⟩
    · have hlt2' : ¬ ((m : Int) < w.2.length) := by omega
      have hmm : m = w.2.length := by omega
      simp (maxSteps := 4000000) -implicitDefEqProofs -dsimp (disch := omega) only [↓AW_ops, ↓AW_seq, ↓AW_cond, ↓AW_exit, ↓AOps_nil, ↓AOps_pu, on_some, condB_f, ↓then_normal, ↓then_exit, ↓inBlock_normal, ↓inBlock_exit, pval, rd_mkS, rd_mkS0, Nat.reduceBEq, Nat.reduceLT, mkS_len, rd_C, put_mkS, beq_self_eq_true, eq_self, Nat.reduceEqDiff, bin_add, bin_lss, w64, if_true, if_false, decide_false, Bool.cond_true, Bool.cond_false, true_and, reduceCtorEq, hlt2']
      refine ⟨j + 1, hlt, by simp [Has, rd_mkS], ?_, by omega⟩
      rw [mL, hget, Option.getD_some, hmm]
  · have hlt' : ¬ ((j : Int) < wc.length) := by omega
    have hjj : j = wc.length := by omega
    simp (maxSteps := 4000000) -implicitDefEqProofs -dsimp (disch := omega) only [↓AW_ops, ↓AW_seq, ↓AW_cond, ↓AW_exit, ↓AOps_nil, ↓AOps_pu, on_some, condB_f, ↓then_normal, ↓then_exit, ↓inBlock_exit, pval, rd_mkS, rd_mkS0, Nat.reduceBEq, Nat.reduceLT, mkS_len, put_mkS, beq_self_eq_true, eq_self, bin_lss, if_true, decide_false, Bool.cond_true, Bool.cond_false, true_and, reduceCtorEq, hlt']
    refine ⟨by simp [Has, rd_mkS], ?_⟩
    rw [hwv, hjj]
theorem tmod_nat (k n : Nat) : ((k : Int) + 1).tmod (n : Int) = (((k + 1) % n : Nat) : Int) := by
  rw [show ((k : Int) + 1) = ((k + 1 : Nat) : Int) by omega]
  exact (Int.ofNat_tmod _ _).symm
theorem tb {A Ha : AHeap} {v y : AV} {left : List Bool} {out : List Int} {wc : List (AV × List Int)} {L : List (Nat × AV)} (h3 : rd (mkS 42 L) (.s 3) = .ptr (A.length + 1) 0) (hR : RH A v Ha left out) (hLL : ∀ o : AObj, LL (Ha.set A.length o) y wc) (hwl : wc.length ≤ 1000) (hrl : ∀ w ∈ wc, w.2.length ≤ 1000) (hin : ∀ w ∈ wc, ∀ i ∈ w.2, 0 ≤ i ∧ i < out.length) :
    AW Try.prog m20p3 (MX.then (AW Try.prog m20p4 (fun e _ H1 => e = .normal ∧ H1 = Ha.set A.length (.cells true ((dL (lists wc) out (lists wc).length).flatMap e1)))) (fun _ _ _ => False)) ((mkS 42 L).set 14 y) Ha := by
  have hwv : (lists wc).length = wc.length := by simp
  have hL0 := hLL (.cells true (out.flatMap e1))
  rw [set_eqO hR.ho] at hL0
  show AW Try.prog m20p3 _ (mkS 42 ((14, y) :: L)) Ha
  simp (maxSteps := 4000000) -implicitDefEqProofs -dsimp (disch := omega) only [↓AW_ops, ↓AW_seq, ↓AW_block, ↓AOps_nil, ↓AOps_pu, on_some, ↓then_normal, pval, rd_mkS, Nat.reduceBEq, Nat.reduceLT, rd_C, put_mkS, ↓AW_toLoop, beq_self_eq_true, if_true, Bool.cond_true, Bool.cond_false, m20p3, m20p4, hL0.ls.len]
  refine LoopK.byS (fun j : Nat => j ≤ wc.length) (fun j => [(3, .ptr (A.length + 1) 0), (15, y), (16, I wc.length), (17, I j)]) (fun j => Ha.set A.length (.cells true ((dL (lists wc) out j).flatMap e1))) (fun j => wc.length - j) 0 (Nat.zero_le _) (by simp [Has, rd_mkS, h3]) (set_eqO hR.ho).symm ?_
  intro j hj
  by_cases hlt : j < wc.length
  · obtain ⟨w, hz⟩ : ∃ z, wc[j]? = some z := ⟨_, List.getElem?_eq_getElem hlt⟩
    have hlt' : (j : Int) < wc.length := by omega
    have hwm := List.mem_of_getElem? hz
    have hwl1 := hrl w hwm
    have hLj := hLL (.cells true ((dL (lists wc) out j).flatMap e1))
    have hget : (lists wc)[j]? = some w.2 := ws_get hz
    simp (maxSteps := 4000000) -implicitDefEqProofs -dsimp (disch := omega) only [↓AW_skip, ↓AW_ops, ↓AW_seq, ↓AW_cond, ↓AW_block, ↓AOps_nil, ↓AOps_pu, ↓AOps_ld, on_some, condB_t, ↓then_normal, pval, lval, rd_mkS, rd_mkS0, Nat.reduceBEq, Nat.reduceLT, rd_C, put_mkS, ↓AW_toLoop, partA, beq_self_eq_true, eq_self, List.getElem?_cons_zero, List.drop_zero, List.take_succ_cons, List.take_nil, List.length_cons, List.length_nil, Nat.reduceLeDiff, Nat.zero_add, bin_lss, if_true, if_false, Bool.false_eq_true, decide_true, Bool.cond_true, Bool.cond_false, hlt', hLj.ls.idx hlt, hLj.ls.ld0 hz 1 false (by decide), e0, (hLj.inn w hwm).len]
    refine LoopK.byS (fun m : Nat => m ≤ w.2.length) (fun m => [(3, .ptr (A.length + 1) 0), (6, w.1), (15, y), (16, I wc.length), (17, I j), (21, w.1), (22, I w.2.length), (23, I m)]) (fun m => Ha.set A.length (.cells true ((dC w.2 (dL (lists wc) out j) m).flatMap e1))) (fun m => w.2.length - m) 0 (Nat.zero_le _) (by simp [Has, rd_mkS]) rfl ?_
    intro m hm
    by_cases hlt2 : m < w.2.length
    · obtain ⟨i, hi⟩ : ∃ i, w.2[m]? = some i := ⟨_, List.getElem?_eq_getElem hlt2⟩
      have hlt2' : (m : Int) < w.2.length := by omega
      obtain ⟨i0, i1⟩ := hin w hwm i (List.mem_of_getElem? hi)
      obtain ⟨q, rfl⟩ : ∃ q : Nat, i = q := ⟨i.toNat, by omega⟩
      have hml : (m + 1) % w.2.length < w.2.length := Nat.mod_lt _ (by omega)
      obtain ⟨z, hzz⟩ : ∃ z, w.2[(m + 1) % w.2.length]? = some z := ⟨_, List.getElem?_eq_getElem hml⟩
      have hmod := tmod_nat m w.2.length
      have hne0 : ¬ (w.2.length : Int) = 0 := by omega
      have hLm := hLL (.cells true ((dC w.2 (dL (lists wc) out j) m).flatMap e1))
      have hlen : (dC w.2 (dL (lists wc) out j) m).length = out.length := by rw [dC_len, dL_len]
      have hRm := hR.setO hlen
      have hq : q < (dC w.2 (dL (lists wc) out j) m).length := by omega
      have hst := hRm.olo.st hq (I z) z rfl
      rw [List.set_set] at hst
      have hmc : dC w.2 (dL (lists wc) out j) (m + 1) = (dC w.2 (dL (lists wc) out j) m).set q z := by rw [dC, hi, hzz]; rfl
      have hcm := hLm.inn w hwm
      simp (maxSteps := 4000000) -implicitDefEqProofs -dsimp (disch := omega) only [↓AW_skip, ↓AW_ops, ↓AW_seq, ↓AW_cond, ↓AW_block, ↓AOps_nil, ↓AOps_pu, ↓AOps_ld, ↓AOps_ha, on_some, extK_false, condB_t, ↓then_normal, ↓inBlock_normal, pval, lval, hval_st, rd_mkS, rd_mkS0, Nat.reduceBEq, Nat.reduceLT, mkS_len, rd_C, put_mkS, putS_none, partA, beq_self_eq_true, eq_self, List.getElem?_cons_zero, List.drop_zero, List.take_succ_cons, List.take_nil, Option.map_some, List.length_cons, List.length_nil, Nat.reduceLeDiff, Nat.zero_add, bin_add, bin_rem, bin_lss, w64, if_true, if_false, Bool.false_eq_true, decide_true, Bool.cond_true, Bool.cond_false, Go.Eng.e1, true_and, hlt2', hcm.len, hcm.idx hlt2, hcm.ld0 hi 1 false (by decide), e1, hRm.ldo, hRm.olo.ls.idx hq, hne0, hmod, (hLm.inn w hwm).idx hml, (hLm.inn w hwm).ld0 hzz 1 false (by decide), hst]
      exact ⟨m + 1, hlt2, by simp [Has, rd_mkS], by rw [hmc], by omega⟩
    · have hlt2' : ¬ ((m : Int) < w.2.length) := by omega
      have hmm : m = w.2.length := by omega
      simp (maxSteps := 4000000) -implicitDefEqProofs -dsimp (disch := omega) only [↓AW_ops, ↓AW_seq, ↓AW_cond, ↓AW_exit, ↓AOps_nil, ↓AOps_pu, on_some, condB_f, ↓then_normal, ↓then_exit, ↓inBlock_normal, ↓inBlock_exit, pval, rd_mkS, rd_mkS0, Nat.reduceBEq, Nat.reduceLT, mkS_len, rd_C, put_mkS, beq_self_eq_true, eq_self, Nat.reduceEqDiff, bin_add, bin_lss, w64, if_true, if_false, decide_false, Bool.cond_true, Bool.cond_false, true_and, reduceCtorEq, hlt2']
      refine ⟨j + 1, hlt, by simp [Has, rd_mkS], ?_, by omega⟩
      rw [dL, hget, Option.getD_some, hmm]
  · have hlt' : ¬ ((j : Int) < wc.length) := by omega
    have hjj : j = wc.length := by omega
    simp (maxSteps := 4000000) -implicitDefEqProofs -dsimp (disch := omega) only [↓AW_ops, ↓AW_seq, ↓AW_cond, ↓AW_exit, ↓AOps_nil, ↓AOps_pu, on_some, condB_f, ↓then_normal, ↓then_exit, ↓inBlock_normal, ↓inBlock_exit, pval, rd_mkS, rd_mkS0, Nat.reduceBEq, Nat.reduceLT, put_mkS, beq_self_eq_true, eq_self, Nat.reduceEqDiff, bin_lss, if_true, if_false, decide_false, Bool.cond_true, Bool.cond_false, true_and, reduceCtorEq, hlt']
    rw [hwv, hjj]
end Go.Proofs.Ytgidfejkfdkflaa

namespace Go.Eng
open Go
section
variable {P : Program} {n : Nat} {ρ0 : Ren} {H0 : AHeap} {w0 : World}
/-- A piece from listed slots to listed slots, and what comes behind it. -/
theorem WC_seqk (hm : P.follows .mixedOrders = true) {x z : Code} {mx : MCode} (hx : trC P [] [] x = some mx) {k : Nat} {L L' : List (Nat × AV)} {H H' : AHeap} {Q : Post}
    (hA : AW P mx (fun e S1 H1 => e = .normal ∧ S1.length = k ∧ Has S1 L' ∧ H1 = H') (mkS k L) H) (hk : WC P n ρ0 H0 w0 z Q (mkS k L') H') : WC P n ρ0 H0 w0 (.seq x z) Q (mkS k L) H := by
  refine WC_seq (WC_pure hm hx (AW_mono (fun e S1 H1 h => ?_) hA))
  obtain ⟨rfl, h1, h2, rfl⟩ := h
  exact WC_forget (forget_mkS h1 h2) hk
theorem WC_loopS {α : Type} {x : Code} {Q : Post} {m : Nat} {L0 : List (Nat × AV)} {H : AHeap} (inv : α → Prop) (L : α → List (Nat × AV)) (hp : α → AHeap) (μ : α → Nat) (x0 : α) (h0 : inv x0) (hL : Has (mkS m L0) (L x0)) (hH : H = hp x0)
    (hstep : ∀ y, inv y → WC P n ρ0 H0 w0 x (MX.then (fun S' H' => ∃ z, inv z ∧ S'.length = m ∧ Has S' (L z) ∧ H' = hp z ∧ μ z < μ y) Q) (mkS m (L y)) (hp y)) : WC P n ρ0 H0 w0 (.loop x) Q (mkS m L0) H := by
  refine WC_loop (fun k S H => ∃ y, inv y ∧ k = μ y ∧ S = mkS m (L y) ∧ H = hp y) ?_ (forget_mkS (mkS_len _ _) hL) ⟨x0, h0, rfl, rfl, hH⟩
  rintro k S H ⟨y, hy, rfl, rfl, rfl⟩
  refine WC_mono (hstep y hy) (fun e S' H' h => ?_)
  cases e with
  | normal =>
    obtain ⟨z, h1, h2, h3, h4, h5⟩ := h
    exact ⟨μ z, mkS m (L z), h5, forget_mkS h2 h3, z, h1, rfl, rfl, h4⟩
  | exit id => exact h
  | ret => exact h
end
end Go.Eng
namespace Go.Proofs.Ytgidfejkfdkflaa
open Go Go.Eng
theorem repl_Bf (n : Nat) : repl [AV.bool false] n = (List.replicate n false).flatMap eb := by
  induction n with
  | zero => rfl
  | succ n ih => rw [repl, ih, List.replicate_succ, List.flatMap_cons]; rfl
/-- What stands in memory when the rounds begin. -/
structure RB (A : AHeap) (v : AV) (H : AHeap) (out : List Int) : Prop where
  pre : A <+: H
  len : H.length = A.length + 3
  ho : H[A.length]? = some (.cells true (out.flatMap e1))
  hb : H[A.length + 1]? = some (.cells true [.sl 1 A.length 0 out.length true])
  hv : H[A.length + 2]? = some (.cells true [v])
def HB (A H : AHeap) (left : List Bool) : AHeap := H ++ [.cells true (left.flatMap eb)] ++ [.cells true [.sl 1 (A.length + 3) 0 left.length true]]
theorem RB.rh {A H : AHeap} {v : AV} {out : List Int} (h : RB A v H out) (left : List Bool) : RH A v (HB A H left) left out := by
  have p : H <+: HB A H left := (pre_app _ _).trans (pre_app _ _)
  have hl := h.len
  refine ⟨h.pre.trans p, pre_get p h.ho, pre_get p h.hb, pre_get p h.hv, ?_, ?_⟩
  · unfold HB
    rw [← hl]
    exact pre_get (pre_app _ _) (get_new _ _)
  · unfold HB
    rw [List.getElem?_append_right (by simp; omega)]
    simp [hl]
theorem aw0 {ws : List (AV × List Int)} {v q : AV} {A H : AHeap} {out : List Int} (hV : LL A v ws) (hs : Sz ws) (hR : RB A v H out) :
    AW Try.prog m43p0 (fun e S1 H1 => e = .normal ∧ S1.length = 120 ∧ Has S1 [(0, q), (1, .ptr (A.length + 2) 0), (3, .ptr (A.length + 4) 0)] ∧ H1 = HB A H (List.replicate ws.length false))
      (mkS 120 [(1, .ptr (A.length + 2) 0), (0, q)]) H := by
  have hsv := hs.v
  have hlim : (0 : Int) ≤ ws.length ∧ (ws.length : Int) ≤ ((lim : Nat) : Int) := by simp [lim]; omega
  have hle : (ws.length : Int) ≤ ws.length := Int.le_refl _
  have hl := hR.len
  have hldv : ldA 1 false (.ptr (A.length + 2) 0) H = some v := by simp [ldA, partA, hR.hv]
  have hlen4 : (H ++ [AObj.cells true ((List.replicate ws.length false).flatMap eb)]).length = A.length + 4 := by simp [hl]
  have hst0 : stA 1 (.ptr (A.length + 4) 0) (.sl 1 (A.length + 3) 0 ws.length true) (H ++ [AObj.cells true ((List.replicate ws.length false).flatMap eb)] ++ [AObj.cells true [.nilS]]) = some (HB A H (List.replicate ws.length false)) := by
    have : (H ++ [AObj.cells true ((List.replicate ws.length false).flatMap eb)] ++ [AObj.cells true [AV.nilS]])[A.length + 4]? = some (.cells true [.nilS]) := by rw [← hlen4]; exact get_new _ _
    unfold stA
    simp only [this, AV.cells?]
    unfold HB
    rw [List.length_replicate, ← hlen4, set_new]
    rfl
  simp (maxSteps := 4000000) -implicitDefEqProofs -dsimp (disch := omega) only [↓AW_ops, ↓AOps_nil, ↓AOps_pu, ↓AOps_ld, ↓AOps_ha, on_some, extK_false, extK_app, pval, lval, hval_st, hval_newv, hval_mks, rd_mkS, rd_mkS0, Nat.reduceBEq, Nat.reduceLT, mkS_len, rd_C, put_mkS, putS_none, cells_nilS, beq_self_eq_true, eq_self, Option.map_some, if_true, Bool.cond_true, Bool.cond_false, true_and, and_true, m43p0, hldv, (hV.ls.mono hR.pre).len, hlim, hle, repl_Bf, Int.toNat_natCast, hl, hlen4, hst0]
  simp [Has, rd_mkS]
theorem aw1 {A H : AHeap} {v : AV} {out : List Int} {n : Nat} (hn : n ≤ 1000000) (hB : RB A v H out) :
    AW Try.prog m43p1 (fun e S1 H1 => e = .normal ∧ S1.length = 120 ∧ Has S1 [(1, .ptr (A.length + 2) 0), (3, .ptr (A.length + 4) 0)] ∧ H1 = HB A H (List.replicate n true))
      (mkS 120 [(1, .ptr (A.length + 2) 0), (3, .ptr (A.length + 4) 0)]) (HB A H (List.replicate n false)) := by
  have hl := hB.len
  have hset : ∀ (l l' : List Bool), l'.length = l.length → (HB A H l).set (A.length + 3) (.cells true (l'.flatMap eb)) = HB A H l' := fun l l' h => by
    unfold HB
    rw [List.set_append_left _ _ (by simp; omega), ← hl, set_new, h]
  have hR0 := hB.rh (List.replicate n false)
  have hlb : lenA (.sl 1 (A.length + 3) 0 (List.replicate n false).length true) = some (I n) := by simp [lenA]
  simp (maxSteps := 4000000) -implicitDefEqProofs -dsimp (disch := omega) only [↓AW_ops, ↓AW_seq, ↓AW_block, ↓AOps_nil, ↓AOps_pu, ↓AOps_ld, on_some, ↓then_normal, pval, lval, rd_mkS, rd_mkS0, Nat.reduceBEq, Nat.reduceLT, rd_C, put_mkS, ↓AW_toLoop, beq_self_eq_true, if_true, Bool.cond_true, Bool.cond_false, m43p1, hR0.ldl, hlb]
  refine LoopK.byS (fun x : Nat × List Bool => x.1 ≤ n ∧ x.2.length = n ∧ ∀ j : Nat, j < x.1 → x.2[j]? = some true) (fun x => [(1, .ptr (A.length + 2) 0), (3, .ptr (A.length + 4) 0), (20, I n), (21, I x.1)]) (fun x => HB A H x.2) (fun x => n - x.1) (0, List.replicate n false) ⟨Nat.zero_le _, by simp, fun j hj => by omega⟩ (by simp [Has, rd_mkS]) rfl ?_
  rintro ⟨i, l⟩ ⟨hi, hll, hlt1⟩
  simp only at hi hll hlt1
  have hR := hB.rh l
  by_cases hlt : i < n
  · have hlt' : (i : Int) < n := by omega
    have hil : i < l.length := by omega
    have hst := hR.oll.st hil (.bool true) true rfl
    rw [hset l _ (by simp)] at hst
    simp (maxSteps := 4000000) -implicitDefEqProofs -dsimp (disch := omega) only [↓AW_skip, ↓AW_ops, ↓AW_seq, ↓AW_cond, ↓AW_block, ↓AOps_nil, ↓AOps_pu, ↓AOps_ld, ↓AOps_ha, on_some, extK_false, condB_t, ↓then_normal, ↓inBlock_normal, pval, lval, hval_st, rd_mkS, rd_mkS0, Nat.reduceBEq, Nat.reduceLT, mkS_len, rd_C, put_mkS, putS_none, beq_self_eq_true, eq_self, Option.map_some, bin_add, bin_lss, w64, if_true, decide_true, Bool.cond_true, Bool.cond_false, true_and, hlt', hR.ldl, hR.oll.ls.idx hil, hst]
    refine ⟨(i + 1, l.set i true), ⟨hlt, by simpa using hll, fun j hj => ?_⟩, by simp [Has, rd_mkS], rfl, by simp only; omega⟩
    simp only at hj ⊢
    by_cases e : j = i
    · subst e; rw [List.getElem?_set_self hil]
    · rw [List.getElem?_set_ne (fun h => e h.symm)]; exact hlt1 j (by omega)
  · have hlt' : ¬ ((i : Int) < n) := by omega
    simp (maxSteps := 4000000) -implicitDefEqProofs -dsimp (disch := omega) only [↓AW_ops, ↓AW_seq, ↓AW_cond, ↓AW_exit, ↓AOps_nil, ↓AOps_pu, on_some, condB_f, ↓then_normal, ↓then_exit, ↓inBlock_exit, pval, rd_mkS, rd_mkS0, Nat.reduceBEq, Nat.reduceLT, mkS_len, put_mkS, beq_self_eq_true, eq_self, bin_lss, if_true, decide_false, Bool.cond_true, Bool.cond_false, true_and, reduceCtorEq, hlt']
    refine ⟨by simp [Has, rd_mkS], ?_⟩
    have : l = List.replicate n true := by
      refine List.ext_getElem? (fun k => ?_)
      rcases Nat.lt_or_ge k n with h | h
      · rw [hlt1 k (by omega), List.getElem?_replicate, if_pos h]
      · rw [List.getElem?_eq_none (by omega), List.getElem?_eq_none (by simp; omega)]
    rw [this]
theorem aw2t {A H : AHeap} {v q : AV} {left : List Bool} {out : List Int} (hR : RH A v H left out) (hl : left.length ≤ 1000000) (ht : true ∈ left) :
    AW Try.prog m43p2 (fun e S1 H1 => e = .normal ∧ S1.length = 120 ∧ Has S1 [(0, q), (1, .ptr (A.length + 2) 0), (3, .ptr (A.length + 4) 0)] ∧ H1 = H)
      (mkS 120 [(0, q), (1, .ptr (A.length + 2) 0), (3, .ptr (A.length + 4) 0)]) H := by
  simp (maxSteps := 4000000) -implicitDefEqProofs -dsimp (disch := omega) only [↓AW_ops, ↓AW_seq, ↓AOps_ld, ↓AOps_call, on_some, lval, rd_mkS, rd_mkS0, Nat.reduceBEq, Nat.reduceLT, rd_C, put_mkS, beq_self_eq_true, map_c, map_n, if_true, Bool.cond_true, Bool.cond_false, m43p2, hR.ldl]
  refine CallK.of (s44 hR.oll.ls hl) ?_
  simp (maxSteps := 4000000) -implicitDefEqProofs -dsimp (disch := omega) only [↓AW_skip, ↓AW_cond, ↓AOps_nil, extK_same, condB_t, ↓then_normal, rd_mkS, rd_mkS0, Nat.reduceBEq, Nat.reduceLT, mkS_len, put_mkS, beq_self_eq_true, eq_self, if_true, decide_true, Bool.cond_true, Bool.cond_false, true_and, and_true, ht]
  simp [Has, rd_mkS]
theorem aw2f {A H : AHeap} {v q : AV} {left : List Bool} {out : List Int} (hR : RH A v H left out) (hl : left.length ≤ 1000000) (ht : ¬ true ∈ left) :
    AW Try.prog m43p2 (fun e S1 H1 => e = .exit 2 ∧ H1 = H)
      (mkS 120 [(0, q), (1, .ptr (A.length + 2) 0), (3, .ptr (A.length + 4) 0)]) H := by
  simp (maxSteps := 4000000) -implicitDefEqProofs -dsimp (disch := omega) only [↓AW_ops, ↓AW_seq, ↓AOps_ld, ↓AOps_call, on_some, lval, rd_mkS, rd_mkS0, Nat.reduceBEq, Nat.reduceLT, rd_C, put_mkS, beq_self_eq_true, map_c, map_n, if_true, Bool.cond_true, Bool.cond_false, m43p2, hR.ldl]
  refine CallK.of (s44 hR.oll.ls hl) ?_
  simp (maxSteps := 4000000) -implicitDefEqProofs -dsimp (disch := omega) only [↓AW_cond, ↓AW_exit, ↓AOps_nil, extK_same, condB_f, ↓then_normal, rd_mkS, rd_mkS0, Nat.reduceBEq, Nat.reduceLT, put_mkS, beq_self_eq_true, eq_self, if_true, decide_false, Bool.cond_true, Bool.cond_false, and_true, ht]
/-- What holds at the head of a round. -/
def Inv (ws : List (AV × List Int)) (A : AHeap) (v : AV) (x : AHeap × List Bool × List Int) : Prop :=
  RH A v x.1 x.2.1 x.2.2 ∧ x.2.1.length = ws.length ∧ x.2.2.length = ws.length ∧ (∀ z ∈ x.2.2, 0 ≤ z) ∧ ∃ t s, TS (lists ws).length (rk (lists ws)) (bl x.2.1) (fo x.2.2) t s
/-- A round. -/
def Rd (ws : List (AV × List Int)) (A : AHeap) (Yd : AV → AHeap → AHeap → Prop) (x x' : AHeap × List Bool × List Int) : Prop :=
  ∃ (y : AV) (Hc Ha : AHeap),
    AW Try.prog m43p6 (fun e S1 H1 => e = .normal ∧ S1.length = 120 ∧ Has S1 [(1, .ptr (A.length + 2) 0), (3, .ptr (A.length + 4) 0), (8, y)] ∧ H1 = Hc)
      (mkS 120 [(1, .ptr (A.length + 2) 0), (3, .ptr (A.length + 4) 0), (5, .sl 1 x.1.length 0 ws.length true), (8, .nilS)]) (x.1 ++ [.cells true ((ptL (lists ws) x.2.1).flatMap e1)]) ∧
    AW Try.prog m43p7 (fun e S1 H1 => e = .normal ∧ S1.length = 120 ∧ Has S1 [(1, .ptr (A.length + 2) 0), (3, .ptr (A.length + 4) 0), (8, y)] ∧ H1 = Ha)
      (mkS 120 [(1, .ptr (A.length + 2) 0), (3, .ptr (A.length + 4) 0), (8, y)]) Hc ∧
    Yd y Ha x'.1
theorem bl_mem {left : List Bool} : true ∈ left ↔ ∃ j, j < left.length ∧ bl left j = true := by
  constructor
  · intro h
    obtain ⟨j, hj⟩ := List.mem_iff_getElem?.1 h
    exact ⟨j, (List.getElem?_eq_some_iff.1 hj).1, by unfold bl; rw [hj]; rfl⟩
  · rintro ⟨j, hj, hb⟩
    unfold bl at hb
    rw [List.getElem?_eq_getElem hj] at hb
    have : left[j] = true := hb
    rw [← this]
    exact List.getElem_mem hj
/-- What the body of the range does with the cycles of a round. -/
def YD (A : AHeap) (v : AV) (Yd : AV → AHeap → AHeap → Prop) : Prop :=
  ∀ (y : AV) (Ha : AHeap) (left : List Bool) (out : List Int) (wc : List (AV × List Int)), RH A v Ha left out → (∀ o : AObj, LL (Ha.set A.length o) y wc) → wc.length ≤ 1000 → (∀ w ∈ wc, w.2.length ≤ 1000) → (∀ w ∈ wc, ∀ i ∈ w.2, 0 ≤ i ∧ i < out.length) →
    Yd y Ha (Ha.set A.length (.cells true ((dL (lists wc) out (lists wc).length).flatMap e1)))
theorem round_step {ws : List (AV × List Int)} {v : AV} {A : AHeap} (hV : LL A v ws) (hs : Sz ws) (hg : gd (lists ws)) {Yd : AV → AHeap → AHeap → Prop} (hY : YD A v Yd) (x : AHeap × List Bool × List Int) (hx : Inv ws A v x) (hns : ¬ ¬ true ∈ x.2.1) :
    ∃ x', Rd ws A Yd x x' ∧ Inv ws A v x' ∧ lcnt (lists ws).length x'.2.1 < lcnt (lists ws).length x.2.1 := by
  obtain ⟨H, left, out⟩ := x
  obtain ⟨hR, hll, hol, h0, t, s, hTS⟩ := hx
  simp only at hR hll hol h0 hTS hns
  have hVl : (lists ws).length = ws.length := by simp
  have hn5 : 1 ≤ ws.length ∧ ws.length ≤ 5 := by have := hg.1; rwa [hVl] at this
  obtain ⟨j0, hj0, hb0⟩ := bl_mem.1 (Classical.not_not.1 hns)
  obtain ⟨⟨y, Hc, wc, cs⟩, ⟨hcs, hne, hcl, hlw, hn⟩, hA6⟩ := aw6 hV hs hg hR hll ⟨j0, by omega, hb0⟩
  simp only at hcs hne hcl hlw hn hA6
  have hpc := hn.acc.1
  have hR1 := hR.mono (pre_app H [AObj.cells true ((ptL (lists ws) left).flatMap e1)])
  have hRc := hR1.mono hpc
  have hwl : wc.length = cs.length := by have := congrArg List.length hlw; simpa using this
  have hlwl : (lists wc).length = cs.length := by rw [hlw, List.length_map]
  have hrow : ∀ w ∈ wc, ∃ c ∈ cs, w.2 = cz c := fun w hw => by
    have : w.2 ∈ cs.map cz := by rw [← hlw]; exact mem_lists hw
    obtain ⟨c, hc, e⟩ := List.mem_map.1 this
    exact ⟨c, hc, e.symm⟩
  have hin : ∀ w ∈ wc, ∀ i ∈ w.2, 0 ≤ i ∧ i < ws.length := fun w hw i hi => by
    obtain ⟨c, hc, e⟩ := hrow w hw
    rw [e] at hi
    unfold cz at hi
    obtain ⟨q, hq, rfl⟩ := List.mem_map.1 hi
    obtain ⟨i1, x1, k1, k2, k3, k4⟩ := hcs.cyc c hc
    have := (k4 q hq).1
    omega
  have hrl : ∀ w ∈ wc, w.2.length ≤ 1000 := fun w hw => by
    obtain ⟨c, hc, e⟩ := hrow w hw
    obtain ⟨i1, x1, k1, k2, k3, k4⟩ := hcs.cyc c hc
    have := sub_len c (List.range (lists ws).length) k1.nd (fun y hy => List.mem_range.2 (k4 y hy).1)
    rw [e, cz_len]
    rw [List.length_range] at this
    omega
  have hHp : A.length + 5 ≤ (H ++ [AObj.cells true ((ptL (lists ws) left).flatMap e1)]).length := by have := hR.len; simp; omega
  have hA7 := aw7 hRc hHp hn (by omega) hrl (fun w hw i hi => by have := hin w hw i hi; omega)
  have hRa := hRc.setL (left' := mL (lists wc) left (lists wc).length) (mL_len _ _ _)
  have hLL : ∀ o : AObj, LL ((Hc.set (A.length + 3) (.cells true ((mL (lists wc) left (lists wc).length).flatMap eb))).set A.length o) y wc := fun o => hn.keepLL (by simp only [List.length_set]; exact hpc.length_le) (fun k ob hk h => by
    rw [List.getElem?_set_ne (by omega), List.getElem?_set_ne (by omega)]; exact h)
  have hYd := hY y _ _ out wc hRa hLL (by omega) hrl (fun w hw i hi => by have := hin w hw i hi; omega)
  have hRb := hRa.setO (out' := dL (lists wc) out (lists wc).length) (dL_len _ _ _)
  obtain ⟨p1, ⟨t', p2⟩, p3⟩ := round_plain hg (by omega) h0 hTS hcs hne
  rw [← hlw, ← hlwl] at p1 p2 p3
  exact ⟨(_, _, _), ⟨y, Hc, _, hA6, hA7, hYd⟩, ⟨hRb, by simp only [mL_len]; exact hll, by simp only [dL_len]; exact hol, p1, t', _, p2⟩, p3⟩
end Go.Proofs.Ytgidfejkfdkflaa

namespace Go.Proofs.Ytgidfejkfdkflaa
open Go Go.Eng
set_option maxHeartbeats 2000000 in
theorem it_rounds {ws : List (AV × List Int)} {v : AV} {A H : AHeap} (hV : LL A v ws) (hs : Sz ws) (hg : gd (lists ws)) (hB : RB A v H (List.replicate ws.length 0)) {Yd : AV → AHeap → AHeap → Prop} (hY : YD A v Yd) :
    ∃ (H' : AHeap) (left : List Bool) (out : List Int), Inv ws A v (H', left, out) ∧ (¬ true ∈ left) ∧ AIter Try.prog 43 [.ptr (A.length + 2) 0] H H' Yd := by
  have hsv := hs.v
  have hstart : Inv ws A v (HB A H (List.replicate ws.length true), List.replicate ws.length true, List.replicate ws.length 0) := by
    refine ⟨hB.rh _, by simp, by simp, fun z hz => by rw [List.eq_of_mem_replicate hz]; exact Int.le_refl _, fun _ => 0, 0, ?_⟩
    refine (TS.start (lists ws).length (rk (lists ws)) (fo (List.replicate ws.length 0)) (fun _ => 0)).congr (fun i hi => ?_) (fun i _ h => by cases h)
    unfold bl
    have : i < ws.length := by simpa using hi
    simp [this]
  obtain ⟨N, f, f0, f1, f2, f3⟩ := chain_ex (inv := Inv ws A v) (stop := fun x => ¬ true ∈ x.2.1) (R := Rd ws A Yd) (μ := fun x => lcnt (lists ws).length x.2.1) (fun x hx hns => round_step hV hs hg hY x hx hns) _ _ rfl hstart
  refine ⟨(f N).1, (f N).2.1, (f N).2.2, f1 N (Nat.le_refl _), f3, ?_⟩
  refine aiter_of Try.func43 (by kernel_rfl) rfl rfl (fun n l ρ w hsm hy => ?_)
  show WC _ _ _ _ _ _ _ ([.yld l, .ptr (A.length + 2) 0] ++ List.replicate 118 .junk) _
  rw [start2]
  refine WC_seqk hmix (mx := m43p0) (by kernel_rfl) (aw0 (q := .yld l) hV hs hB) ?_
  refine WC_seqk hmix (mx := m43p1) (by kernel_rfl) (AW_frameS (q := .yld l) (by rfl) (by decide) (by simp) (aw1 hsv hB)) ?_
  refine WC_block (by decide) ?_
  refine WC_loopS (fun k : Nat => k ≤ N) (fun _ => [(0, .yld l), (1, .ptr (A.length + 2) 0), (3, .ptr (A.length + 4) 0)]) (fun k => (f k).1) (fun k => N - k) 0 (Nat.zero_le _) (by simp [Has, rd_mkS]) (by rw [f0]) ?_
  intro k hk
  obtain ⟨hR, hll, hol, h0, _⟩ := f1 k hk
  by_cases hkN : k = N
  · subst hkN
    refine WC_seq (WC_pure hmix (m := m43p2) (by kernel_rfl) (AW_mono (fun e S1 H1 h => ?_) (aw2f (q := .yld l) hR (by omega) f3)))
    obtain ⟨rfl, rfl⟩ := h
    exact ⟨.inl rfl, gc_all⟩
  have hklt : k < N := by omega
  obtain ⟨hns, y, Hc, Ha, hA6, hA7, hYd⟩ := f2 k hklt
  have ht : true ∈ (f k).2.1 := Classical.not_not.1 hns
  obtain ⟨j0, hj0, hb0⟩ := bl_mem.1 ht
  refine WC_seqk hmix (mx := m43p2) (by kernel_rfl) (aw2t (q := .yld l) hR (by omega) ht) ?_
  refine WC_block (by decide) ?_
  refine WC_seqk hmix (mx := m43p3) (by kernel_rfl) (AW_frameS (q := .yld l) (by rfl) (by decide) (by simp) (aw3 hV hs hR)) ?_
  refine WC_seqk hmix (mx := m43p4) (by kernel_rfl) (AW_frameS (q := .yld l) (by rfl) (by decide) (by simp) (aw4 hV hs hg hR hll ⟨j0, by omega, hb0⟩)) ?_
  refine WC_seqk hmix (mx := m43p5) (by kernel_rfl) (AW_frameS (q := .yld l) (by rfl) (by decide) (by simp) aw5) ?_
  refine WC_seqk hmix (mx := m43p6) (by kernel_rfl) (AW_frameS (q := .yld l) (by rfl) (by decide) (by simp) hA6) ?_
  refine WC_seqk hmix (mx := m43p7) (by kernel_rfl) (AW_frameS (q := .yld l) (by rfl) (by decide) (by simp) hA7) ?_
  refine WC_seq (WC_yield (H2 := (f (k + 1)).1) hy ?_ ?_ ?_ ?_)
  · rfl
  · simp [mkS_len]
  · exact hYd
  show WC _ _ _ _ _ _ _ (mkS 120 [(119, B false), (118, B true), (117, y), (116, .yld l), (0, .yld l), (1, .ptr (A.length + 2) 0), (3, .ptr (A.length + 4) 0), (8, y)]) _
  refine WC_pure hmix (m := m43p9) (by kernel_rfl) ?_
  simp (maxSteps := 4000000) -implicitDefEqProofs -dsimp (disch := omega) only [↓AW_skip, ↓AW_cond, condB_f, ↓then_normal, ↓inBlock_normal, rd_mkS, rd_mkS0, Nat.reduceBEq, Nat.reduceLT, mkS_len, beq_self_eq_true, eq_self, Nat.reduceAdd, if_true, Bool.cond_true, Bool.cond_false, true_and, m43p9]
  exact ⟨k + 1, hklt, by simp [Has, rd_mkS], rfl, by omega⟩
/-- What a trade hands back. -/
def TR (ws : List (AV × List Int)) (A H : AHeap) (y : AV) : Prop :=
  A <+: H ∧ ∃ (o : List Int) (t : Nat → Nat), L1 H y o ∧ o.Perm (nums ws.length) ∧ TTC ws.length (rk (lists ws)) (fo o) t
set_option maxHeartbeats 2000000 in
theorem s20 {ws : List (AV × List Int)} {v : AV} {A : AHeap} (hV : LL A v ws) (hs : Sz ws) (hg : gd (lists ws)) : ∃ r H', ACalls Try.prog 20 [v] A r H' ∧ TR ws A H' r := by
  have hsv := hs.v
  have hVl : (lists ws).length = ws.length := by simp
  have hcv : v.cells? = some [v] := Ls_cells hV.ls
  have hlim : (0 : Int) ≤ ws.length ∧ (ws.length : Int) ≤ ((lim : Nat) : Int) := by simp [lim]; omega
  have hle : (ws.length : Int) ≤ ws.length := Int.le_refl _
  have hlen1 : (A ++ [AObj.cells true ((List.replicate ws.length (0 : Int)).flatMap e1)]).length = A.length + 1 := by simp
  have hlen2 : (A ++ [AObj.cells true ((List.replicate ws.length (0 : Int)).flatMap e1)] ++ [AObj.cells true [.sl 1 A.length 0 ws.length true]]).length = A.length + 2 := by simp
  have hst : stA 1 (.ptr (A.length + 1) 0) (.sl 1 A.length 0 ws.length true) (A ++ [AObj.cells true ((List.replicate ws.length (0 : Int)).flatMap e1)] ++ [AObj.cells true [.nilS]]) = some (A ++ [AObj.cells true ((List.replicate ws.length (0 : Int)).flatMap e1)] ++ [AObj.cells true [.sl 1 A.length 0 ws.length true]]) := by
    have : (A ++ [AObj.cells true ((List.replicate ws.length (0 : Int)).flatMap e1)] ++ [AObj.cells true [AV.nilS]])[A.length + 1]? = some (.cells true [.nilS]) := by rw [← hlen1]; exact get_new _ _
    unfold stA
    simp only [this, AV.cells?]
    rw [← hlen1, set_new]
    rfl
  have hB : RB A v (A ++ [AObj.cells true ((List.replicate ws.length (0 : Int)).flatMap e1)] ++ [AObj.cells true [.sl 1 A.length 0 ws.length true]] ++ [AObj.cells true [v]]) (List.replicate ws.length 0) := by
    refine ⟨((pre_app _ _).trans (pre_app _ _)).trans (pre_app _ _), by simp, pre_get ((pre_app _ _).trans (pre_app _ _)) (get_new _ _), pre_get (pre_app _ _) ?_, ?_⟩
    · rw [← hlen1, List.length_replicate]; exact get_new _ _
    · rw [← hlen2]; exact get_new _ _
  obtain ⟨L, hL⟩ : ∃ L : List (Nat × AV), L = [(13, .fn 43 [.ptr (A.length + 2) 0]), (12, v), (3, .ptr (A.length + 1) 0), (11, .sl 1 A.length 0 ws.length true), (10, I ws.length), (9, v), (2, .nilS), (0, v)] := ⟨_, rfl⟩
  have h3 : rd (mkS 42 L) (.s 3) = .ptr (A.length + 1) 0 := by rw [hL]; simp [rd_mkS]
  have hY : YD A v (fun x H1 H2 => AW Try.prog m20p3 (MX.then (AW Try.prog m20p4 (fun e _ H' => e = .normal ∧ H' = H2)) (fun _ _ _ => False)) ((mkS 42 L).set 14 x) H1) :=
    fun y Ha left out wc hR hLL hwl hrl hin => tb h3 hR hLL hwl hrl hin
  obtain ⟨H', left, out, ⟨hR, hll, hol, h0, t, s, hTS⟩, hns, hit⟩ := it_rounds hV hs hg hB hY
  simp only at hR hll hol h0 hTS
  have hc33 := s33 v hcv (A ++ [AObj.cells true ((List.replicate ws.length (0 : Int)).flatMap e1)] ++ [AObj.cells true [.sl 1 A.length 0 ws.length true]])
  rw [hlen2] at hc33
  obtain ⟨q1, q2⟩ := round_end (by omega) h0 hTS (fun i hi => by
    have : ¬ bl left i = true := fun e => hns (bl_mem.2 ⟨i, by omega, e⟩)
    simpa using this)
  rw [hVl] at q1 q2
  refine ⟨.sl 1 A.length 0 out.length true, H', ?_, hR.pre, out, t, hR.olo.ls, q1, q2⟩
  refine acalls_wf Try.func20 (by kernel_rfl) rfl (fun n ρ w hsm => ?_)
  show WF _ _ _ _ _ _ _ _ _ ([v] ++ List.replicate 41 .junk) _
  rw [start1]
  refine WF_seq (WC_pure hmix (m := m20p0) (by kernel_rfl) ?_)
  simp (maxSteps := 4000000) -implicitDefEqProofs -dsimp (disch := omega) only [↓AW_ops, ↓AOps_nil, ↓AOps_pu, on_some, pval, rd_C, put_mkS, eq_self, Nat.reduceAdd, true_and, m20p0]
  refine WF_seq (WC_pure hmix (m := m20p1) (by kernel_rfl) ?_)
  simp (maxSteps := 4000000) -implicitDefEqProofs -dsimp (disch := omega) only [↓AW_ops, ↓AOps_nil, ↓AOps_pu, ↓AOps_ha, on_some, extK_false, extK_app, pval, hval_st, hval_newv, hval_mks, rd_mkS, rd_mkS0, Nat.reduceBEq, Nat.reduceLT, rd_C, put_mkS, putS_none, cells_nilS, beq_self_eq_true, eq_self, Option.map_some, if_true, Bool.cond_true, Bool.cond_false, true_and, and_true, m20p1, hV.ls.len, hlim, hle, repl_I0, Int.toNat_natCast, hlen1, hst]
  refine WF_range hmix (ma := m20p3) (mb := m20p4) rfl rfl (by kernel_rfl) (by kernel_rfl) rfl rfl rfl rfl (by kernel_rfl) (by kernel_rfl) ?_ ⟨ρ, hsm, rfl⟩
  refine WC_pure hmix (m := m20p2) (by kernel_rfl) ?_
  simp (maxSteps := 4000000) -implicitDefEqProofs -dsimp (disch := omega) only [↓AW_ops, ↓AOps_pu, ↓AOps_call, on_some, pval, rd_mkS, rd_mkS0, Nat.reduceBEq, Nat.reduceLT, put_mkS, beq_self_eq_true, map_c, map_n, if_true, Bool.cond_true, Bool.cond_false, m20p2]
  refine CallK.of hc33 ?_
  simp (maxSteps := 4000000) -implicitDefEqProofs -dsimp (disch := omega) only [↓AOps_nil, extK_app, rd_mkS, rd_mkS0, Nat.reduceBEq, Nat.reduceLT, mkS_len, put_mkS, beq_self_eq_true, eq_self, if_true, Bool.cond_true, Bool.cond_false, true_and]
  refine ⟨H', .sl 1 A.length 0 out.length true, ⟨43, [.ptr (A.length + 2) 0], rfl, ?_⟩, hR.ldo, gc_all⟩
  rw [hL] at hit
  exact hit
theorem s7 {ws : List (AV × List Int)} {v : AV} {A : AHeap} (hV : LL A v ws) (hs : Sz ws) (hg : gd (lists ws)) : ∃ r H', ACalls Try.prog 7 [v] A r H' ∧ ∃ y, r = .tuple [y, I 0] ∧ TR ws A H' y := by
  obtain ⟨y, H, hc, hT⟩ := s20 hV hs hg
  have e : vE (lists ws) = 0 := if_pos hg
  refine acallsR hmix Try.func7 (by kernel_rfl) t7 _ 1 rfl (by decide) ?_
  dsimp only [m7]
  simp (maxSteps := 4000000) -implicitDefEqProofs -dsimp (disch := omega) only [↓AW_ops, ↓AW_seq, ↓AOps_nil, ↓AOps_pu, ↓AOps_call, on_some, ↓then_normal, pval, rd_S, rd_C, put_S, List.replicate_succ, List.replicate_zero, List.set_cons_zero, List.set_cons_succ, List.getElem?_cons_zero, List.getElem?_cons_succ, Option.getD_some, map_c, map_n, Nat.reduceSub, List.cons_append, List.nil_append]
  refine CallK.of (s8 hV hs) ?_
  simp (maxSteps := 4000000) -implicitDefEqProofs -dsimp (disch := omega) only [↓AW_skip, ↓AW_ops, ↓AW_seq, ↓AW_cond, ↓AOps_nil, ↓AOps_pu, ↓AOps_call, on_some, extK_same, condB_f, ↓then_normal, pval, rd_S, rd_C, put_S, eq_self, List.replicate_succ, List.replicate_zero, List.set_cons_zero, List.set_cons_succ, List.getElem?_cons_zero, List.getElem?_cons_succ, Option.getD_some, map_c, map_n, Nat.reduceSub, List.cons_append, List.nil_append, bin_neq, decide_false, not_true_eq_false, e]
  refine CallK.of hc ?_
  simp (maxSteps := 4000000) -implicitDefEqProofs -dsimp (disch := omega) only [↓AW_ret, ↓AOps_nil, ↓AOps_pu, on_some, extK_false, ↓then_normal, ↓FinR_ret, pval, rd_S, rd_C, put_S, resV, resL, List.replicate_succ, List.replicate_zero, List.set_cons_zero, List.set_cons_succ, List.getElem?_cons_zero, List.getElem?_cons_succ, Option.getD_some, Nat.reduceSub, List.cons_append, List.nil_append]
  exact ⟨_, _, gc_all, y, rfl, hT⟩
theorem s7n {ws : List (AV × List Int)} {v : AV} {A : AHeap} (hV : LL A v ws) (hs : Sz ws) (hg : ¬ gd (lists ws)) : ACalls Try.prog 7 [v] A (.tuple [.nilS, I 1]) A := by
  have e : vE (lists ws) = 1 := if_neg hg
  refine acalls hmix Try.func7 (by kernel_rfl) t7 1 rfl (by decide) ?_
  dsimp only [m7]
  simp (maxSteps := 4000000) -implicitDefEqProofs -dsimp (disch := omega) only [↓AW_ops, ↓AW_seq, ↓AOps_nil, ↓AOps_pu, ↓AOps_call, on_some, ↓then_normal, pval, rd_S, rd_C, put_S, List.replicate_succ, List.replicate_zero, List.set_cons_zero, List.set_cons_succ, List.getElem?_cons_zero, List.getElem?_cons_succ, Option.getD_some, map_c, map_n, Nat.reduceSub, List.cons_append, List.nil_append]
  refine CallK.of (s8 hV hs) ?_
  simp (maxSteps := 4000000) -implicitDefEqProofs -dsimp (disch := omega) only [↓AW_ops, ↓AW_seq, ↓AW_cond, ↓AW_ret, ↓AOps_nil, ↓AOps_pu, on_some, extK_same, condB_t, ↓then_normal, ↓then_ret, ↓Fin_ret, pval, rd_S, rd_C, put_S, resV, resL, List.replicate_succ, List.replicate_zero, List.set_cons_zero, List.set_cons_succ, List.getElem?_cons_zero, List.getElem?_cons_succ, Option.getD_some, Nat.reduceSub, List.cons_append, List.nil_append, bin_neq, decide_true, not_false_eq_true, Int.reduceEq, e]
  exact gc_same rfl
end Go.Proofs.Ytgidfejkfdkflaa

namespace Go.Proofs.Ytgidfejkfdkflaa
open Go Go.Eng
def c10 : AObj := .cells true [I 1, I 0]
def litW (A : AHeap) : List (AV × List Int) := [(.sl 1 A.length 0 2 true, [1, 0]), (.sl 1 (A ++ [c10]).length 0 2 true, [1, 0])]
def litH (A : AHeap) : AHeap := A ++ [c10] ++ [c10] ++ [.cells true [.sl 1 A.length 0 2 true, .sl 1 (A ++ [c10]).length 0 2 true]]
theorem lit_ll (A : AHeap) : LL (litH A) (.sl 1 (A ++ [c10] ++ [c10]).length 0 2 true) (litW A) := by
  have one : ∀ B : AHeap, L1 (B ++ [c10]) (.sl 1 B.length 0 2 true) [1, 0] := fun B => (OL.new_mk e1_len B [(1 : Int), 0] true).ls
  refine ⟨(OL.new_mk e0_len (A ++ [c10] ++ [c10]) (litW A) true).ls, fun x hx => ?_⟩
  simp only [litW, List.mem_cons, List.not_mem_nil, or_false] at hx
  rcases hx with rfl | rfl
  · exact (one A).mono ((pre_app _ _).trans (pre_app _ _))
  · exact (one (A ++ [c10])).mono (pre_app _ _)
theorem lit_rk (A : AHeap) : rkL (lists (litW A)) [0, 1] = [1, 0] := by
  show rkL [[1, 0], [1, 0]] [0, 1] = [1, 0]
  decide
theorem lit_gd (A : AHeap) : gd (lists (litW A)) := by
  show gd [[1, 0], [1, 0]]
  decide
theorem perm_isO {n : Nat} {o : List Int} (h : o.Perm (nums n)) : isO o n := by
  refine ⟨by rw [h.length_eq, nums_len], fun i hi => h.mem_iff.2 ?_⟩
  unfold nums
  exact List.mem_map.2 ⟨i, List.mem_range.2 hi, rfl⟩
/-- A copy behind a list of no elements. -/
theorem app_ex {H : AHeap} {y : AV} {xs : List Int} (hy : L1 H y xs) (hl : xs.length ≤ 1000000) : ∃ v' H', appA 1 (H ++ [.cells true []]) (.sl 1 H.length 0 0 true) y = some (v', H') ∧ H <+: H' ∧ L1 H' v' xs := by
  obtain ⟨v', n, full, H2, h1, h2, h3, rfl, h5⟩ := L1_app_new hy (by simp [lim]; omega)
  rw [List.append_nil] at h5
  exact ⟨_, H2, h1, h2, OL.ls (A := H) ⟨e1_len, h2, h3, h5, full, rfl⟩⟩
theorem LI_len {ws ws' : List (AV × List Int)} {k : Nat} {li : List Int} (h : lists ws' = (lists ws).set k li) : ws'.length = ws.length := by
  have := congrArg List.length h
  simpa using this
/-- The sum of ranks is never great. -/
theorem rk_sum {V : List (List Int)} (hg : gd V) {d : List Int} (hd : d.Perm (nums V.length)) : 0 ≤ (rkL V d).sum ∧ (rkL V d).sum ≤ 20 := by
  have h1 := rank_bd hg hd
  have hlen := rkL_len hd
  have hn := hg.1.2
  have key : ∀ l : List Int, (∀ x ∈ l, 0 ≤ x ∧ x ≤ 4) → 0 ≤ l.sum ∧ l.sum ≤ 4 * l.length := by
    intro l
    induction l with
    | nil => intro _; simp
    | cons a l ih =>
      intro h
      have := ih (fun x hx => h x (by simp [hx]))
      have := h a (by simp)
      simp only [List.sum_cons, List.length_cons]
      omega
  have := key _ h1
  omega
set_option maxRecDepth 40000 in
set_option maxHeartbeats 64000000 in
theorem s3 {ws : List (AV × List Int)} {v u z : AV} {d li : List Int} {o : Int} {A : AHeap} (hV : LL A v ws) (hl : ws.length ≤ 9223372036854775807) (hd : L1 A u d) (hz : L1 A z li) :
    ACalls Try.prog 3 [v, u, .agg [I o, z]] A (B true) A := by
  refine acalls hmix Try.func3 (by kernel_rfl) t3 3 rfl (by decide) ?_
  rw [start3]
  have hLL := lit_ll A
  have h01 : ∀ B : AHeap, L1 (B ++ [AObj.cells true [I 0, I 1]]) (.sl 1 B.length 0 2 true) [0, 1] := fun B => (OL.new_mk e1_len B [(0 : Int), 1] true).ls
  have h10 : ∀ B : AHeap, L1 (B ++ [AObj.cells true [I 1, I 0]]) (.sl 1 B.length 0 2 true) [1, 0] := fun B => (OL.new_mk e1_len B [(1 : Int), 0] true).ls
  dsimp only [m3]
  simp (maxSteps := 4000000) -implicitDefEqProofs -dsimp (disch := omega) only [↓AW_ops, ↓AW_seq, ↓AOps_nil, ↓AOps_pu, ↓AOps_ha, ↓AOps_call, on_some, extK_app, ↓then_normal, pval, hval, rd_mkS, rd_mkS0, Nat.reduceBEq, Nat.reduceLT, rd_C, put_mkS, AV.cells?, splice, fillA, repl, beq_self_eq_true, eq_self, List.drop_zero, List.drop_succ_cons, List.drop_nil, List.take_zero, List.take_succ_cons, map_c, map_n, List.length_cons, List.length_nil, Nat.reduceAdd, Nat.reduceSub, Nat.reduceLeDiff, Nat.zero_add, List.cons_append, List.nil_append, List.append_nil, if_true, Bool.cond_true, Bool.cond_false, and_true, repl]
  rw [show (AObj.cells true [I 1, I 0]) = c10 from rfl, show (A ++ [c10] ++ [c10] ++ [AObj.cells true [.sl 1 A.length 0 2 true, .sl 1 (A ++ [c10]).length 0 2 true]]) = litH A from rfl]
  have pl : A <+: litH A := (pre_app _ _).trans ((pre_app _ _).trans (pre_app _ _))
  refine CallK.of (s4 (hLL.mono (pre_app _ [AObj.cells true [I 0, I 1]])) ⟨by simp [litW], by simp [litW]⟩ (h01 (litH A)) (by simp) (lit_gd A) (show isO [0, 1] 2 by decide)) ?_
  rw [lit_rk]
  have pA : A <+: outH (litH A ++ [AObj.cells true [I 0, I 1]]) (([1, 0] : List Int).flatMap Go.Eng.e1) ([1, 0] : List Int).length := pl.trans ((pre_app _ _).trans (pre_out _ _ _))
  have hq1 := Ls_out (litH A ++ [AObj.cells true [I 0, I 1]]) e1_len ([1, 0] : List Int)
  generalize outV 1 (litH A ++ [AObj.cells true [I 0, I 1]]) ([1, 0] : List Int).length = y1 at *
  generalize outH (litH A ++ [AObj.cells true [I 0, I 1]]) (([1, 0] : List Int).flatMap Go.Eng.e1) ([1, 0] : List Int).length = A0 at *
  simp (maxSteps := 4000000) -implicitDefEqProofs -dsimp (disch := omega) only [↓AW_ops, ↓AW_seq, ↓AOps_nil, ↓AOps_pu, ↓AOps_ha, ↓AOps_call, ↓AOps_guard, on_some, extK_false, extK_app, guardB_ff, ↓then_normal, pval, hval, rd_mkS, rd_mkS0, Nat.reduceBEq, Nat.reduceLT, rd_C, put_mkS, AV.cells?, splice, fillA, repl, beq_self_eq_true, eq_self, List.getElem?_cons_zero, List.getElem?_cons_succ, List.drop_zero, List.drop_succ_cons, List.drop_nil, List.take_zero, List.take_succ_cons, map_c, map_n, List.length_cons, List.length_nil, Nat.reduceAdd, Nat.reduceSub, Nat.reduceLeDiff, Nat.zero_add, List.cons_append, List.nil_append, List.append_nil, bin_neq, if_true, decide_false, Bool.cond_true, Bool.cond_false, and_true, not_true_eq_false, repl]
  refine CallK.of (c_SameInts (hq1.mono (pre_app _ _)) (h10 A0) (by simp)) ?_
  simp (maxSteps := 4000000) -implicitDefEqProofs -dsimp (disch := omega) only [↓AW_skip, ↓AW_ops, ↓AW_seq, ↓AW_cond, ↓AOps_nil, ↓AOps_pu, ↓AOps_call, ↓AOps_guard, on_some, extK_same, guardB_ff, condB_f, ↓then_normal, pval, rd_mkS, rd_mkS0, Nat.reduceBEq, Nat.reduceLT, rd_C, put_mkS, beq_self_eq_true, eq_self, map_c, map_n, Nat.reduceAdd, Nat.reduceSub, if_true, if_false, Bool.false_eq_true, Bool.not_true, decide_true, Bool.cond_true, Bool.cond_false]
  replace pA := pA.trans (pre_app A0 [AObj.cells true [I 1, I 0]])
  generalize A0 ++ [AObj.cells true [I 1, I 0]] = A1 at *
  have hV1 := hV.mono pA
  have hd1 := hd.mono pA
  have hz1 := hz.mono pA
  refine CallK.of (s6 hV1 hl) ?_
  by_cases h1 : longS ws
  · simp (maxSteps := 4000000) -implicitDefEqProofs -dsimp (disch := omega) only [↓AW_ops, ↓AW_seq, ↓AW_cond, ↓AW_ret, ↓AOps_nil, ↓AOps_pu, ↓AOps_guard, on_some, extK_same, guardB_tf, skipS_some, condB_t, ↓then_normal, ↓then_ret, ↓Fin_ret, pval, rd_mkS, rd_mkS0, Nat.reduceBEq, Nat.reduceLT, rd_C, put_mkS, resV, resL, beq_self_eq_true, eq_self, Nat.reduceAdd, Nat.reduceSub, if_true, decide_true, Bool.cond_true, Bool.cond_false, h1]
    exact gc_val pA rfl
  by_cases h2 : (40 : Int) < d.length
  · simp (maxSteps := 4000000) -implicitDefEqProofs -dsimp (disch := omega) only [↓AW_ops, ↓AW_seq, ↓AW_cond, ↓AW_ret, ↓AOps_nil, ↓AOps_pu, ↓AOps_guard, on_some, extK_same, guardB_tf, guardB_ff, skipS_some, condB_t, ↓then_normal, ↓then_ret, ↓Fin_ret, pval, rd_mkS, rd_mkS0, Nat.reduceBEq, Nat.reduceLT, rd_C, put_mkS, resV, resL, beq_self_eq_true, eq_self, Nat.reduceAdd, Nat.reduceSub, bin_gtr, if_true, if_false, Bool.false_eq_true, decide_true, decide_false, Bool.cond_true, Bool.cond_false, h1, hd1.len, h2]
    exact gc_val pA rfl
  by_cases h3 : (40 : Int) < li.length
  · simp (maxSteps := 4000000) -implicitDefEqProofs -dsimp (disch := omega) only [↓AW_ops, ↓AW_seq, ↓AW_cond, ↓AW_ret, ↓AOps_nil, ↓AOps_pu, ↓AOps_guard, on_some, extK_same, guardB_ff, condB_t, ↓then_normal, ↓then_ret, ↓Fin_ret, pval, rd_mkS, rd_mkS0, Nat.reduceBEq, Nat.reduceLT, rd_C, put_mkS, resV, resL, chkd, isAdr, bgot, AV.cells?, partA, beq_self_eq_true, eq_self, List.getElem?_cons_zero, List.getElem?_cons_succ, List.drop_zero, List.drop_succ_cons, List.take_succ_cons, List.take_nil, List.length_cons, List.length_nil, Nat.reduceAdd, Nat.reduceSub, Nat.reduceLeDiff, Nat.zero_add, bin_gtr, if_true, if_false, Bool.false_eq_true, decide_true, decide_false, Bool.cond_true, Bool.cond_false, h1, hd1.len, h2, hz1.len, h3]
    exact gc_val pA rfl
  have hs := Sz_of h1
  have hsv := hs.v
  simp (maxSteps := 4000000) -implicitDefEqProofs -dsimp (disch := omega) only [↓AW_skip, ↓AW_ops, ↓AW_seq, ↓AW_cond, ↓AOps_nil, ↓AOps_pu, ↓AOps_call, ↓AOps_guard, on_some, extK_same, guardB_ff, condB_f, ↓then_normal, pval, rd_mkS, rd_mkS0, Nat.reduceBEq, Nat.reduceLT, rd_C, put_mkS, chkd, isAdr, bgot, AV.cells?, partA, beq_self_eq_true, eq_self, List.getElem?_cons_zero, List.getElem?_cons_succ, List.drop_zero, List.drop_succ_cons, List.take_succ_cons, List.take_nil, map_c, map_n, List.length_cons, List.length_nil, Nat.reduceAdd, Nat.reduceSub, Nat.reduceLeDiff, Nat.zero_add, bin_gtr, if_true, if_false, Bool.false_eq_true, decide_true, decide_false, Bool.cond_true, Bool.cond_false, h1, hd1.len, h2, hz1.len, h3]
  by_cases hg : gd (lists ws)
  case neg =>
    have hvE : vE (lists ws) = 1 := if_neg hg
    refine CallK.of (s7n hV1 hs hg) ?_
    simp (maxSteps := 4000000) -implicitDefEqProofs -dsimp (disch := omega) only [↓AW_ops, ↓AW_seq, ↓AW_cond, ↓AOps_nil, ↓AOps_pu, ↓AOps_call, on_some, extK_same, condB_t, ↓then_normal, pval, rd_mkS, rd_mkS0, Nat.reduceBEq, Nat.reduceLT, rd_C, put_mkS, beq_self_eq_true, eq_self, List.getElem?_cons_zero, List.getElem?_cons_succ, map_c, map_n, Nat.reduceAdd, Nat.reduceSub, bin_neq, if_true, decide_true, Bool.cond_true, Bool.cond_false, not_false_eq_true, Int.reduceEq]
    refine CallK.of (s8 hV1 hs) ?_
    simp (maxSteps := 4000000) -implicitDefEqProofs -dsimp (disch := omega) only [↓AW_ret, ↓AOps_nil, ↓AOps_pu, on_some, extK_same, ↓then_normal, ↓then_ret, ↓Fin_ret, pval, rd_mkS, rd_mkS0, Nat.reduceBEq, Nat.reduceLT, put_mkS, resV, resL, beq_self_eq_true, eq_self, Nat.reduceAdd, Nat.reduceSub, bin_eql, if_true, decide_true, Bool.cond_true, Bool.cond_false, hvE]
    exact gc_val pA rfl
  have hVl : (lists ws).length = ws.length := by simp
  have hn5 : 1 ≤ ws.length ∧ ws.length ≤ 5 := by have := hg.1; rwa [hVl] at this
  obtain ⟨r, A2, c7, yo, rfl, p2, ow, t, hyo, hperm, hT⟩ := s7 hV1 hs hg
  have howl : ow.length = ws.length := by rw [hperm.length_eq, nums_len]
  have hisO := perm_isO hperm
  have hV2 := hV1.mono p2
  have hT' : TTC (lists ws).length (rk (lists ws)) (fo ow) t := by rw [hVl]; exact hT
  have hperm' : ow.Perm (nums (lists ws).length) := by rw [hVl]; exact hperm
  have hst := own_stable hg hperm' hT'
  refine CallK.of c7 ?_
  simp (maxSteps := 4000000) -implicitDefEqProofs -dsimp (disch := omega) only [↓AW_skip, ↓AW_ops, ↓AW_seq, ↓AW_cond, ↓AOps_nil, ↓AOps_pu, ↓AOps_call, on_some, extK_false, condB_f, ↓then_normal, pval, rd_mkS, rd_mkS0, Nat.reduceBEq, Nat.reduceLT, rd_C, put_mkS, beq_self_eq_true, eq_self, List.getElem?_cons_zero, List.getElem?_cons_succ, map_c, map_n, Nat.reduceAdd, Nat.reduceSub, bin_neq, if_true, decide_true, decide_false, Bool.cond_true, Bool.cond_false, not_true_eq_false]
  refine CallK.of (s9 hV2 hs hyo hg hisO) ?_
  rw [decide_eq_true hst]
  simp (maxSteps := 4000000) -implicitDefEqProofs -dsimp (disch := omega) only [↓AW_ops, ↓AW_seq, ↓AOps_nil, ↓AOps_pu, ↓AOps_call, on_some, extK_same, ↓then_normal, pval, rd_mkS, rd_mkS0, Nat.reduceBEq, Nat.reduceLT, put_mkS, beq_self_eq_true, eq_self, List.getElem?_cons_zero, List.getElem?_cons_succ, map_c, map_n, Nat.reduceAdd, Nat.reduceSub, if_true, decide_true, Bool.cond_true, Bool.cond_false]
  have hwl : ∀ (i : Nat) (w : AV × List Int) (p : Int), ws[i]? = some w → ow[i]? = some p → ¬ pos w.2 i < pos w.2 p := fun i w p hw hp => by
    have hi := (List.getElem?_eq_some_iff.1 hw).1
    have := own_willing hg hperm' hT' (i := i) (by omega)
    have hrw : rw' (lists ws) (i : Int) = w.2 := by unfold rw'; rw [Int.toNat_natCast, ws_get hw]; rfl
    have h5 := (fo_at hperm hi).1
    rw [hp] at h5
    rw [hrw, ← Option.some.inj h5] at this
    exact this
  have cw := s10 hV2 hs hyo (by omega) hg hisO
  rw [@decide_eq_true _ (Classical.propDecidable _) hwl] at cw
  refine CallK.of cw ?_
  have hlen9 : (ow.length : Int) = ws.length := by omega
  simp (maxSteps := 4000000) -implicitDefEqProofs -dsimp (disch := omega) only [↓AW_skip, ↓AW_ops, ↓AW_seq, ↓AW_cond, ↓AOps_nil, ↓AOps_pu, ↓AOps_call, ↓AOps_guard, on_some, extK_same, guardB_ff, condB_f, ↓then_normal, pval, rd_mkS, rd_mkS0, Nat.reduceBEq, Nat.reduceLT, rd_C, put_mkS, beq_self_eq_true, eq_self, List.getElem?_cons_zero, List.getElem?_cons_succ, map_c, map_n, Nat.reduceAdd, Nat.reduceSub, bin_neq, if_true, if_false, Bool.false_eq_true, Bool.not_true, decide_true, decide_false, Bool.cond_true, Bool.cond_false, not_true_eq_false, hyo.len, hV2.ls.len, hlen9]
  have hd2 := hd1.mono p2
  have hz2 := hz1.mono p2
  refine CallK.of (s11 hV2 hs hd2 (by omega)) ?_
  have pB := pA.trans p2
  rcases Decidable.em (isO d ws.length) with hO | hO
  case' inr =>
    have hE : ¬ oE (lists ws) d = 0 := by
      rw [oE, if_neg (fun e => hO (by have := e.2; rwa [hVl] at this))]
      decide
    simp (maxSteps := 4000000) -implicitDefEqProofs -dsimp (disch := omega) only [↓AW_skip, ↓AW_ops, ↓AW_seq, ↓AW_cond, ↓AOps_nil, ↓AOps_pu, ↓AOps_call, on_some, extK_same, condB_f, ↓then_normal, pval, rd_mkS, rd_mkS0, Nat.reduceBEq, Nat.reduceLT, rd_C, put_mkS, chkd, isAdr, bgot, AV.cells?, partA, beq_self_eq_true, eq_self, List.getElem?_cons_zero, List.getElem?_cons_succ, List.drop_zero, List.drop_succ_cons, List.take_zero, List.take_succ_cons, List.take_nil, map_c, map_n, List.length_cons, List.length_nil, Nat.reduceAdd, Nat.reduceSub, Nat.reduceLeDiff, Nat.zero_add, bin_eql, if_true, if_false, Bool.false_eq_true, decide_true, decide_false, Bool.cond_true, Bool.cond_false, hE]
    have pT := pB
    have hVT := hV2
    have hyT := hyo
    have hzT := hz2
    generalize A2 = HT at pT hVT hyT hzT ⊢
  case' inl =>
    have hE : oE (lists ws) d = 0 := by rw [oE, if_pos ⟨hg, by rw [hVl]; exact hO⟩]
    have hdp : d.Perm (nums ws.length) := isO_perm hO
    have hdp' : d.Perm (nums (lists ws).length) := by rw [hVl]; exact hdp
    simp (maxSteps := 4000000) -implicitDefEqProofs -dsimp (disch := omega) only [↓AW_ops, ↓AW_seq, ↓AW_cond, ↓AOps_nil, ↓AOps_pu, ↓AOps_call, on_some, extK_same, condB_t, ↓then_normal, pval, rd_mkS, rd_mkS0, Nat.reduceBEq, Nat.reduceLT, rd_C, put_mkS, beq_self_eq_true, eq_self, map_c, map_n, Nat.reduceAdd, Nat.reduceSub, bin_eql, if_true, decide_true, Bool.cond_true, Bool.cond_false, hE]
    refine CallK.of (s9 hV2 hs hd2 hg hO) ?_
    simp (maxSteps := 4000000) -implicitDefEqProofs -dsimp (disch := omega) only [↓AW_ops, ↓AW_seq, ↓AOps_nil, ↓AOps_pu, ↓AOps_call, ↓AOps_guard, on_some, extK_same, guardB_ff, ↓then_normal, pval, rd_mkS, rd_mkS0, Nat.reduceBEq, Nat.reduceLT, rd_C, put_mkS, beq_self_eq_true, eq_self, List.getElem?_cons_zero, List.getElem?_cons_succ, map_c, map_n, Nat.reduceAdd, Nat.reduceSub, bin_neq, if_true, decide_true, decide_false, Bool.cond_true, Bool.cond_false, not_true_eq_false]
    have hsame : decide (stB (lists ws) d) = decide (ow = d) := by
      by_cases e : ow = d
      · rw [decide_eq_true e, decide_eq_true (e ▸ hst)]
      · rw [decide_eq_false e, decide_eq_false (other_blocked hg hperm' hdp' hT' e)]
    refine CallK.of (c_SameInts hyo hd2 (by omega)) ?_
    rw [hsame]
    obtain ⟨y7, A7, happ, p7, hy7⟩ := app_ex hd2 (by omega)
    simp (maxSteps := 4000000) -implicitDefEqProofs -dsimp (disch := omega) only [↓AW_skip, ↓AW_ops, ↓AW_seq, ↓AW_cond, ↓AW_block, ↓AOps_nil, ↓AOps_pu, ↓AOps_ha, ↓AOps_guard, on_some, extK_false, extK_app, extK_same, guardB_ff, condB_f, ↓then_normal, pval, hval_blds, hval_app, rd_mkS, rd_mkS0, Nat.reduceBEq, Nat.reduceLT, rd_C, put_mkS, ↓AW_toLoop, fillA, repl, beq_self_eq_true, eq_self, map_n, Nat.reduceAdd, Nat.reduceSub, if_true, if_false, Bool.false_eq_true, Bool.not_true, decide_true, Bool.cond_true, Bool.cond_false, beq_self_eq_true, repl, happ]
    refine LoopK.byS (fun x : Nat × AHeap × AV × List Int => A2 <+: x.2.1 ∧ L1 x.2.1 x.2.2.1 x.2.2.2 ∧ x.2.2.2.Perm (nums ws.length) ∧ (rkL (lists ws) x.2.2.2).sum + x.1 ≤ 20) (fun x => [(0, v), (5, .agg [I o, z]), (9, yo), (17, x.2.2.1), (18, I x.1)]) (fun x => x.2.1) (fun x => 21 - x.1) (0, A7, y7, d) ⟨p7, hy7, hdp, by have := (rk_sum hg hdp').2; simp only; omega⟩ (by simp [Has, rd_mkS]) rfl ?_
    rintro ⟨k, HT, y, now⟩ ⟨pH, hy, hnp, hsum⟩
    simp only at pH hy hnp hsum
    have hnp' : now.Perm (nums (lists ws).length) := by rw [hVl]; exact hnp
    have hnO := perm_isO hnp
    have hnl : now.length = ws.length := hnO.1
    have hs0 := rk_sum hg hnp'
    have hk30 : ¬ (30 : Int) < (k : Int) := by omega
    have hVT := hV2.mono pH
    have hyT := hyo.mono pH
    have hzT := hz2.mono pH
    have pT := pB.trans pH
    obtain ⟨r, A8, c12, y8, b, rfl, p8, him⟩ := s12 hVT hs hy hg hnO
    simp (maxSteps := 4000000) -implicitDefEqProofs -dsimp (disch := omega) only [↓AW_ops, ↓AW_seq, ↓AW_block, ↓AOps_pu, ↓AOps_call, on_some, pval, rd_mkS, rd_mkS0, Nat.reduceBEq, Nat.reduceLT, put_mkS, beq_self_eq_true, map_c, map_n, if_true, Bool.cond_true, Bool.cond_false]
    refine CallK.of c12 ?_
    have hV8 := hVT.mono p8
    rcases him with ⟨rfl, rfl, him⟩ | ⟨rfl, nx, hxp', hximp, hy8⟩
    case' inr =>
      have hxp : nx.Perm (nums ws.length) := by rw [hVl] at hxp'; exact hxp'
      have hxO := perm_isO hxp
      have hxl := hxO.1
      have hn8 := hy.mono p8
      have hfall := rank_fall hg hnp' hxp' hximp
      have c4a := s4 hV8 hs hn8 (by omega) hg hnO
      have p9 := pre_out A8 ((rkL (lists ws) now).flatMap Go.Eng.e1) (rkL (lists ws) now).length
      have hr1 := Ls_out A8 e1_len (rkL (lists ws) now)
      generalize outV 1 A8 (rkL (lists ws) now).length = yr1 at *
      generalize outH A8 ((rkL (lists ws) now).flatMap Go.Eng.e1) (rkL (lists ws) now).length = A9 at *
      have hV9 := hV8.mono p9
      have hy9 := hy8.mono p9
      have c4b := s4 hV9 hs hy9 (by omega) hg hxO
      have p10 := pre_out A9 ((rkL (lists ws) nx).flatMap Go.Eng.e1) (rkL (lists ws) nx).length
      have hr2 := Ls_out A9 e1_len (rkL (lists ws) nx)
      generalize outV 1 A9 (rkL (lists ws) nx).length = yr2 at *
      generalize outH A9 ((rkL (lists ws) nx).flatMap Go.Eng.e1) (rkL (lists ws) nx).length = A10 at *
      have hl1 := rkL_len hnp'
      have hl2 := rkL_len hxp'
      have b1 := rank_bd hg hnp'
      have b2 := rank_bd hg hxp'
      have hge : ¬ (rkL (lists ws) now).sum ≤ (rkL (lists ws) nx).sum := by omega
      obtain ⟨y11, A11, happ11, p11, hy11⟩ := app_ex (hy9.mono p10) (by omega)
      simp (maxSteps := 4000000) -implicitDefEqProofs -dsimp (disch := omega) only [↓AW_skip, ↓AW_ops, ↓AW_seq, ↓AW_cond, ↓AOps_nil, ↓AOps_pu, ↓AOps_call, ↓AOps_guard, on_some, extK_false, guardB_ff, condB_f, ↓then_normal, pval, rd_mkS, rd_mkS0, Nat.reduceBEq, Nat.reduceLT, rd_C, put_mkS, beq_self_eq_true, eq_self, List.getElem?_cons_zero, List.getElem?_cons_succ, map_c, map_n, bin_neq, bin_gtr, if_true, if_false, Bool.false_eq_true, Bool.not_true, decide_false, Bool.cond_true, Bool.cond_false, not_true_eq_false, hk30]
      refine CallK.of c4a ?_
      simp (maxSteps := 4000000) -implicitDefEqProofs -dsimp (disch := omega) only [↓AW_ops, ↓AW_seq, ↓AOps_nil, ↓AOps_pu, ↓AOps_call, on_some, extK_false, ↓then_normal, pval, rd_mkS, rd_mkS0, Nat.reduceBEq, Nat.reduceLT, put_mkS, beq_self_eq_true, List.getElem?_cons_zero, List.getElem?_cons_succ, map_c, map_n, if_true, Bool.cond_true, Bool.cond_false]
      refine CallK.of c4b ?_
      simp (maxSteps := 4000000) -implicitDefEqProofs -dsimp (disch := omega) only [↓AW_ops, ↓AW_seq, ↓AOps_nil, ↓AOps_pu, ↓AOps_call, ↓AOps_guard, on_some, extK_false, guardB_ff, ↓then_normal, pval, rd_mkS, rd_mkS0, Nat.reduceBEq, Nat.reduceLT, rd_C, put_mkS, beq_self_eq_true, eq_self, List.getElem?_cons_zero, List.getElem?_cons_succ, map_c, map_n, bin_neq, if_true, if_false, Bool.false_eq_true, decide_false, Bool.cond_true, Bool.cond_false, not_true_eq_false]
      refine CallK.of (s13 hr2 (by omega) (fun x hx => by have := b2 x hx; omega)) ?_
      simp (maxSteps := 4000000) -implicitDefEqProofs -dsimp (disch := omega) only [↓AOps_pu, ↓AOps_call, ↓AOps_guard, on_some, extK_same, guardB_ff, pval, rd_mkS, rd_mkS0, Nat.reduceBEq, Nat.reduceLT, put_mkS, beq_self_eq_true, map_c, map_n, if_true, Bool.cond_true, Bool.cond_false]
      refine CallK.of (s13 (hr1.mono p10) (by omega) (fun x hx => by have := b1 x hx; omega)) ?_
      simp (maxSteps := 4000000) -implicitDefEqProofs -dsimp (disch := omega) only [↓AW_skip, ↓AW_ops, ↓AW_cond, ↓AOps_nil, ↓AOps_pu, ↓AOps_ha, ↓AOps_guard, on_some, extK_false, extK_app, extK_same, guardB_ff, condB_f, ↓then_normal, ↓inBlock_normal, pval, hval_blds, hval_app, rd_mkS, rd_mkS0, Nat.reduceBEq, Nat.reduceLT, mkS_len, rd_C, put_mkS, fillA, repl, beq_self_eq_true, eq_self, map_n, bin_add, bin_geq, w64, if_true, if_false, Bool.false_eq_true, decide_false, Bool.cond_true, Bool.cond_false, true_and, hge, repl, happ11]
      exact ⟨(k + 1, A11, y11, nx), ⟨pH.trans (p8.trans (p9.trans (p10.trans p11))), hy11, hxp, by simp only; omega⟩, by simp [Has, rd_mkS], rfl, by simp only; omega⟩
    have hpk := picked hg hnp' him
    rw [hVl] at hpk
    simp (maxSteps := 4000000) -implicitDefEqProofs -dsimp (disch := omega) only [↓AW_skip, ↓AW_ops, ↓AW_seq, ↓AW_cond, ↓AW_exit, ↓AOps_nil, ↓AOps_pu, ↓AOps_call, ↓AOps_guard, on_some, extK_false, guardB_ff, condB_t, condB_f, ↓then_normal, ↓then_exit, ↓inBlock_exit, pval, rd_mkS, rd_mkS0, Nat.reduceBEq, Nat.reduceLT, mkS_len, rd_C, put_mkS, beq_self_eq_true, eq_self, List.getElem?_cons_zero, List.getElem?_cons_succ, map_c, map_n, bin_add, bin_neq, bin_gtr, w64, if_true, if_false, Bool.false_eq_true, Bool.not_false, decide_false, Bool.cond_true, Bool.cond_false, true_and, reduceCtorEq, not_true_eq_false, hk30]
    refine CallK.of (s14 hV8 hs (hy.mono p8) hg hnO) ?_
    rw [hpk]
    simp (maxSteps := 4000000) -implicitDefEqProofs -dsimp (disch := omega) only [↓AW_skip, ↓AW_ops, ↓AW_seq, ↓AW_cond, ↓AOps_nil, ↓AOps_pu, ↓AOps_call, ↓AOps_guard, on_some, extK_same, guardB_ff, condB_f, ↓then_normal, pval, rd_mkS, rd_mkS0, Nat.reduceBEq, Nat.reduceLT, rd_C, put_mkS, chkd, isAdr, bgot, AV.cells?, partA, beq_self_eq_true, eq_self, List.getElem?_cons_zero, List.getElem?_cons_succ, List.drop_zero, List.drop_succ_cons, List.take_zero, List.take_succ_cons, List.take_nil, map_c, map_n, List.length_cons, List.length_nil, Nat.reduceAdd, Nat.reduceLeDiff, Nat.zero_add, bin_neq, if_true, if_false, Bool.false_eq_true, Bool.not_true, decide_false, Bool.cond_true, Bool.cond_false, not_true_eq_false]
    replace pT := pT.trans p8
    replace hVT := hV8
    replace hyT := hyT.mono p8
    replace hzT := hzT.mono p8
    clear hV8
    generalize A8 = HT' at pT hVT hyT hzT ⊢
  all_goals
    obtain ⟨r, A12, c15, p12, hLI⟩ := s15 hVT hs o hzT (by omega)
    refine CallK.of c15 ?_
    have pU := pT.trans p12
    rcases hLI with ⟨ye, e, rfl, he⟩ | ⟨y12, q, ws', rfl, rfl, hq, _, hliO, hLL', hls'⟩
    · simp (maxSteps := 4000000) -implicitDefEqProofs -dsimp (disch := omega) only [↓AW_ops, ↓AW_seq, ↓AW_cond, ↓AW_ret, ↓AOps_nil, ↓AOps_pu, on_some, extK_false, condB_t, ↓then_normal, ↓then_ret, ↓Fin_ret, pval, rd_mkS, rd_mkS0, Nat.reduceBEq, Nat.reduceLT, rd_C, put_mkS, resV, resL, beq_self_eq_true, eq_self, List.getElem?_cons_zero, List.getElem?_cons_succ, Nat.reduceAdd, Nat.reduceSub, bin_neq, if_true, decide_true, Bool.cond_true, Bool.cond_false, not_false_eq_true, he]
      exact gc_val pU rfl
    have hsl := LI_len hls'
    have hliO' : isO li (lists ws).length := by rw [hVl]; exact hliO
    have hg' : gd (lists ws') := by rw [hls']; exact gd_set hg hliO'
    have hs' : Sz ws' := ⟨by omega, fun w hw => by
      have h1 := hg'.2 _ (mem_lists hw)
      have h2 := hg'.1.2
      have h3 := h1.1
      omega⟩
    obtain ⟨r, A13, c7', ya, rfl, p13, aw, t', hya, hperma, hTa⟩ := s7 hLL' hs' hg'
    rw [hsl] at hperma
    have hTa' : TTC (lists ws).length (rk ((lists ws).set q li)) (fo aw) t' := by rw [← hls', hVl, ← hsl]; exact hTa
    have hperma' : aw.Perm (nums (lists ws).length) := by rw [hVl]; exact hperma
    have hq' : q < (lists ws).length := by omega
    have hno := lie_no hg hq' hliO' hperm' hperma' hT' hTa'
    have hawl : aw.length = ws.length := by rw [hperma.length_eq, nums_len]
    have hlena : (aw.length : Int) = (ow.length : Int) := by omega
    obtain ⟨a1, a2⟩ := fo_at hperma hq
    obtain ⟨b1, b2⟩ := fo_at hperm hq
    obtain ⟨w, hw⟩ : ∃ w, ws[q]? = some w := ⟨_, List.getElem?_eq_getElem hq⟩
    have hrw : rw' (lists ws) (q : Int) = w.2 := by unfold rw'; rw [Int.toNat_natCast, ws_get hw]; rfl
    rw [hrw] at hno
    have hV13 := hVT.mono (p12.trans p13)
    have hy13 := hyT.mono (p12.trans p13)
    have hqa : q < aw.length := by omega
    have hqo : q < ow.length := by omega
    have c16 := s16 hV13 hs hg hq a2 b2 hw
    rw [decide_eq_false hno] at c16
    simp (maxSteps := 4000000) -implicitDefEqProofs -dsimp (disch := omega) only [↓AW_skip, ↓AW_ops, ↓AW_seq, ↓AW_cond, ↓AOps_nil, ↓AOps_pu, ↓AOps_call, on_some, extK_false, condB_f, ↓then_normal, pval, rd_mkS, rd_mkS0, Nat.reduceBEq, Nat.reduceLT, rd_C, put_mkS, beq_self_eq_true, eq_self, List.getElem?_cons_zero, List.getElem?_cons_succ, map_c, map_n, Nat.reduceAdd, Nat.reduceSub, bin_neq, if_true, decide_true, decide_false, Bool.cond_true, Bool.cond_false, not_true_eq_false]
    refine CallK.of c7' ?_
    simp (maxSteps := 4000000) -implicitDefEqProofs -dsimp (disch := omega) only [↓AW_skip, ↓AW_ops, ↓AW_seq, ↓AW_cond, ↓AOps_nil, ↓AOps_pu, ↓AOps_ld, ↓AOps_call, ↓AOps_guard, on_some, extK_false, guardB_ff, condB_f, ↓then_normal, pval, lval, rd_mkS, rd_mkS0, Nat.reduceBEq, Nat.reduceLT, rd_C, put_mkS, chkd, isAdr, bgot, AV.cells?, partA, beq_self_eq_true, eq_self, List.getElem?_cons_zero, List.getElem?_cons_succ, List.drop_zero, List.take_zero, List.take_succ_cons, List.take_nil, map_c, map_n, List.length_cons, List.length_nil, Nat.reduceAdd, Nat.reduceSub, Nat.reduceLeDiff, Nat.zero_add, bin_neq, if_true, if_false, Bool.false_eq_true, decide_true, decide_false, Bool.cond_true, Bool.cond_false, Go.Eng.e1, not_true_eq_false, hya.len, hy13.len, hlena, hya.idx hqa, hya.ld0 a1 1 false (by decide), e1, hy13.idx hqo, hy13.ld0 b1 1 false (by decide)]
    refine CallK.of c16 ?_
    simp (maxSteps := 4000000) -implicitDefEqProofs -dsimp (disch := omega) only [↓AW_ops, ↓AW_seq, ↓AW_ret, ↓AOps_nil, ↓AOps_pu, ↓AOps_guard, on_some, extK_same, guardB_tt, ↓then_normal, ↓Fin_ret, pval, rd_mkS, rd_mkS0, Nat.reduceBEq, Nat.reduceLT, rd_C, put_mkS, resV, resL, beq_self_eq_true, eq_self, List.getElem?_cons_zero, List.getElem?_cons_succ, Nat.reduceAdd, Nat.reduceSub, bin_eql, if_true, Bool.not_false, decide_true, Bool.cond_true, Bool.cond_false]
    exact gc_val (pU.trans p13) rfl
end Go.Proofs.Ytgidfejkfdkflaa

