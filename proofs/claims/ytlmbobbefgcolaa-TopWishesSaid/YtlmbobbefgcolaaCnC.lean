/- What the law's proof rests on, part 5: for all that is said in each line. No conditions. -/
import Derived.Test.YtlmbobbefgcolaaRows
import Derived.Shelf.SortM.Plain
import Derived.Shelf.SortM.SortNone
import Derived.Test.YtlmbobbefgcolaaCnB
namespace Go.Proofs.Ytlmbobbefgcolaa
open Go Go.Eng
theorem fl_srv {P : Int} {ls : List (List Int)} (hv : Val P ls) {g : List Int} (hg : Good P ls g) : srv (flF P ls g) = most P ls := by
  have hls : ∀ l ∈ ls, ∀ p ∈ l, inP P p := fun l hl => (hv.l l hl).1
  have hP := hv.hP
  obtain ⟨h1, _, h3⟩ := fl_max hls hg
  obtain ⟨⟨g2, k1, k2⟩, k3⟩ := most_spec (P := P) (by omega) hls
  have := h3 g2 k1
  have := k3 _ h1
  omega
/-- Whether a giving can be made better. -/
def btB (P : Int) (ws : List (AV × List Int)) (g : List Int) : Prop := gE P (lists ws) g = 0 ∧ srv g < most P (lists ws)
instance (P : Int) (ws : List (AV × List Int)) (g : List Int) : Decidable (btB P ws g) := by unfold btB; exact inferInstance
def btV (P : Int) (ws : List (AV × List Int)) (g : List Int) (A : AHeap) : AV := if btB P ws g then .sl 1 A.length 0 ws.length false else .nilS
def btH (P : Int) (ws : List (AV × List Int)) (g : List Int) (A : AHeap) : AHeap := if btB P ws g then A ++ [.cells true ((flF P (lists ws) g).flatMap e1)] else A
theorem s83n (A : AHeap) : ACalls Try.prog 83 [.nilS] A .nilS A := by
  refine acalls hmix Try.func83 (by kernel_rfl) t83 1 rfl (by decide) ?_
  dsimp only [m83]
  simp (maxSteps := 4000000) -implicitDefEqProofs -dsimp (disch := omega) only [↓AW_ops, ↓AW_seq, ↓AW_cond, ↓AW_ret, ↓AOps_nil, ↓AOps_pu, on_some, condB_t, ↓then_normal, ↓then_ret, ↓Fin_ret, pval, rd_S, rd_C, put_S, resV, resL, List.replicate_succ, List.replicate_zero, List.set_cons_zero, List.set_cons_succ, List.getElem?_cons_zero, List.getElem?_cons_succ, Option.getD_some, Nat.reduceSub, List.cons_append, List.nil_append, Bool.not_false]
  exact gc_same rfl
theorem s62nil {P : Int} {A : AHeap} {v : AV} : ACalls Try.prog 62 [.agg [I P, v, .nilS]] A (.agg [I P, v, .nilS]) A := by
  refine acalls hmix Try.func62 (by kernel_rfl) t62 1 rfl (by decide) ?_
  dsimp only [m62]
  simp (maxSteps := 4000000) -implicitDefEqProofs -dsimp (disch := omega) only [↓AW_ops, ↓AW_seq, ↓AOps_nil, ↓AOps_pu, ↓AOps_call, on_some, ↓then_normal, pval, rd_S, rd_C, put_S, chkd, isAdr, bgot, cells_agg, partA, eq_self, List.replicate_succ, List.replicate_zero, List.set_cons_zero, List.set_cons_succ, List.getElem?_cons_zero, List.getElem?_cons_succ, List.drop_zero, List.drop_succ_cons, List.take_succ_cons, List.take_nil, Option.getD_some, map_c, map_n, List.length_cons, List.length_nil, Nat.reduceAdd, Nat.reduceSub, Nat.reduceLeDiff, Nat.zero_add, List.cons_append, List.nil_append, if_true, if_false, Bool.false_eq_true]
  refine CallK.of (s83n A) ?_
  simp (maxSteps := 4000000) -implicitDefEqProofs -dsimp (disch := omega) only [↓AW_ops, ↓AW_seq, ↓AW_block, ↓AOps_nil, ↓AOps_pu, on_some, extK_same, ↓then_normal, pval, rd_S, rd_C, put_S, ↓AW_toLoop, chkd, isAdr, bput, bgot, cells_agg, cells_nilS, splice, partA, eq_self, List.replicate_succ, List.replicate_zero, List.set_cons_zero, List.set_cons_succ, List.getElem?_cons_zero, List.getElem?_cons_succ, List.drop_zero, List.drop_succ_cons, List.drop_nil, List.take_zero, List.take_succ_cons, List.take_nil, Option.getD_some, List.length_cons, List.length_nil, Nat.reduceAdd, Nat.reduceSub, Nat.reduceLeDiff, Nat.zero_add, List.cons_append, List.nil_append, List.append_nil, if_true, if_false, Bool.false_eq_true, ne_eq, not_true_eq_false, lenA]
  refine LoopK.by 25 (fun _ : Unit => True) (fun _ => [(1, .agg [I P, v, .nilS]), (2, .agg [.int .i64 0, .nilS, .nilS]), (10, I 0), (11, I 0)]) (fun _ => A) (fun _ => 0) () trivial rfl (by simp [Has, rd_s]) rfl ?_
  rintro _ _
  simp (maxSteps := 4000000) -implicitDefEqProofs -dsimp (disch := omega) only [↓AW_ops, ↓AW_seq, ↓AW_cond, ↓AW_exit, ↓AW_ret, ↓AOps_nil, ↓AOps_pu, on_some, condB_f, ↓then_normal, ↓then_exit, ↓inBlock_exit, ↓Fin_ret, pval, rd_S, put_S, resV, resL, chkd, bput, bgot, cells_agg, splice, partA, eq_self, mk, List.foldl_cons, List.foldl_nil, List.replicate_succ, List.replicate_zero, List.set_cons_zero, List.set_cons_succ, List.getElem?_cons_zero, List.getElem?_cons_succ, List.drop_zero, List.drop_succ_cons, List.drop_nil, List.take_zero, List.take_succ_cons, List.take_nil, Option.getD_some, List.length_cons, List.length_nil, Nat.reduceAdd, Nat.reduceLeDiff, Nat.reduceEqDiff, Nat.zero_add, List.nil_append, List.append_nil, bin_lss, if_true, if_false, decide_false, ne_eq, not_true_eq_false, Int.lt_irrefl]
  exact gc_same rfl
theorem s36 {P : Int} {ws : List (AV × List Int)} {v : AV} {g : List Int} {u : AV} {A : AHeap} (hw : LL A v ws) (hs : Sz ws) (hg : L1 A u g) (hgl : g.length ≤ 1000000) :
    ACalls Try.prog 36 [.agg [I P, v], u] A (.tuple [btV P ws g A, B (decide (btB P ws g)), I (gE P (lists ws) g)]) (btH P ws g A) := by
  refine acalls hmix Try.func36 (by kernel_rfl) t36 2 rfl (by decide) ?_
  dsimp only [m36]
  simp (maxSteps := 4000000) -implicitDefEqProofs -dsimp (disch := omega) only [↓AW_ops, ↓AW_seq, ↓AOps_nil, ↓AOps_pu, ↓AOps_call, on_some, ↓then_normal, pval, rd_S, rd_C, put_S, chkd, bgot, cells_agg, partA, eq_self, List.replicate_succ, List.replicate_zero, List.set_cons_zero, List.set_cons_succ, List.getElem?_cons_zero, List.getElem?_cons_succ, List.drop_zero, List.take_succ_cons, List.take_nil, Option.getD_some, map_c, map_n, List.length_cons, List.length_nil, Nat.reduceAdd, Nat.reduceSub, Nat.reduceLeDiff, Nat.reduceEqDiff, Nat.zero_add, List.cons_append, List.nil_append, if_true, if_false]
  refine CallK.of (s33 hw hs hg hgl) ?_
  by_cases hE : gE P (lists ws) g = 0
  · have hN : gN P (lists ws) g = srv g := by unfold gN; rw [if_pos hE]
    obtain ⟨hv0, hgood⟩ := good_iff.1 hE
    have hv := val_of hv0
    have hn : ws.length ≤ 7 := by simpa using hv.n
    have hls : ∀ l ∈ lists ws, ∀ p ∈ l, inP P p := fun l hl => (hv.l l hl).1
    have hsr := fl_srv hv hgood
    rw [hN, hE]
    by_cases hu : u = .nilS
    · subst hu
      have hg0 : g = [] := by
        have := hg.hc
        simp [slCells] at this
        exact List.eq_nil_of_length_eq_zero this.1.symm
      subst hg0
      have hws : ws.length = 0 := by have := hgood.len; simpa using this.symm
      have hm0 : most P (lists ws) = 0 := by
        have h1 := srv_le (flF P (lists ws) [])
        have h2 := (fl_max hls hgood).1.len
        rw [hsr] at h1
        rw [h2] at h1
        simp at h1
        omega
      have hnb : ¬ btB P ws [] := fun h => by have := h.2; omega
      have hs0 : srv ([] : List Int) = 0 := rfl
      have hs00 : ((srv ([] : List Int) : Nat) : Int) = 0 := rfl
      unfold btV btH
      rw [if_neg hnb, if_neg hnb, decide_eq_false hnb]
      simp (maxSteps := 4000000) -implicitDefEqProofs -dsimp (disch := omega) only [↓AW_skip, ↓AW_ops, ↓AW_seq, ↓AW_cond, ↓AOps_nil, ↓AOps_pu, ↓AOps_call, on_some, extK_same, condB_f, ↓then_normal, pval, rd_S, rd_C, put_S, chkd, bgot, cells_agg, cells_nilS, splice, partA, fillA, eq_self, List.replicate_succ, List.replicate_zero, List.set_cons_zero, List.set_cons_succ, List.getElem?_cons_zero, List.getElem?_cons_succ, List.drop_zero, List.drop_succ_cons, List.drop_nil, List.take_zero, List.take_succ_cons, List.take_nil, Option.getD_some, Option.map_some, map_c, map_n, List.length_cons, List.length_nil, Nat.reduceAdd, Nat.reduceSub, Nat.reduceLeDiff, Nat.reduceEqDiff, Nat.zero_add, List.cons_append, List.nil_append, List.append_nil, bin_neq, if_true, if_false, decide_false, and_true, not_true_eq_false, hs00]
      refine CallK.of (s62nil) ?_
      simp (maxSteps := 4000000) -implicitDefEqProofs -dsimp (disch := omega) only [↓AW_ops, ↓AW_seq, ↓AOps_nil, ↓AOps_pu, ↓AOps_call, on_some, extK_same, ↓then_normal, pval, rd_S, put_S, partA, eq_self, List.replicate_succ, List.replicate_zero, List.set_cons_zero, List.set_cons_succ, List.getElem?_cons_zero, List.getElem?_cons_succ, List.drop_zero, List.drop_succ_cons, List.take_succ_cons, List.take_nil, Option.getD_some, map_c, map_n, List.length_cons, List.length_nil, Nat.reduceAdd, Nat.reduceSub, Nat.reduceLeDiff, Nat.zero_add, List.cons_append, List.nil_append, if_true, if_false, Bool.false_eq_true]
      refine CallK.of (s61 (L1_nil A) (by simp)) ?_
      simp (maxSteps := 4000000) -implicitDefEqProofs -dsimp (disch := omega) only [↓AW_ops, ↓AW_seq, ↓AW_cond, ↓AW_ret, ↓AOps_nil, ↓AOps_pu, on_some, extK_same, condB_t, ↓then_normal, ↓then_ret, ↓Fin_ret, pval, rd_S, rd_C, put_S, resV, resL, eq_self, List.replicate_succ, List.replicate_zero, List.set_cons_zero, List.set_cons_succ, List.getElem?_cons_zero, List.getElem?_cons_succ, Option.getD_some, Nat.reduceSub, List.cons_append, List.nil_append, bin_eql, decide_true, hs00]
      exact gc_same rfl
    · simp (maxSteps := 4000000) -implicitDefEqProofs -dsimp (disch := omega) only [↓AW_skip, ↓AW_ops, ↓AW_seq, ↓AW_cond, ↓AOps_nil, ↓AOps_pu, ↓AOps_call, on_some, extK_same, condB_f, ↓then_normal, pval, rd_S, rd_C, put_S, chkd, bgot, cells_agg, splice, partA, fillA, eq_self, List.replicate_succ, List.replicate_zero, List.set_cons_zero, List.set_cons_succ, List.getElem?_cons_zero, List.getElem?_cons_succ, List.drop_zero, List.drop_succ_cons, List.drop_nil, List.take_zero, List.take_succ_cons, List.take_nil, Option.getD_some, Option.map_some, map_c, map_n, List.length_cons, List.length_nil, Nat.reduceAdd, Nat.reduceSub, Nat.reduceLeDiff, Nat.reduceEqDiff, Nat.zero_add, List.cons_append, List.nil_append, List.append_nil, bin_neq, if_true, if_false, decide_false, and_true, not_true_eq_false, L1_cells hg]
      refine CallK.of (s62 hv hw hg hu hgood) ?_
      simp (maxSteps := 4000000) -implicitDefEqProofs -dsimp (disch := omega) only [↓AW_ops, ↓AW_seq, ↓AOps_nil, ↓AOps_pu, ↓AOps_call, on_some, extK_app, ↓then_normal, pval, rd_S, put_S, partA, eq_self, List.replicate_succ, List.replicate_zero, List.set_cons_zero, List.set_cons_succ, List.getElem?_cons_zero, List.getElem?_cons_succ, List.drop_zero, List.drop_succ_cons, List.take_succ_cons, List.take_nil, Option.getD_some, map_c, map_n, List.length_cons, List.length_nil, Nat.reduceAdd, Nat.reduceSub, Nat.reduceLeDiff, Nat.zero_add, List.cons_append, List.nil_append, if_true, if_false, Bool.false_eq_true]
      have hfl : (flF P (lists ws) g).length = ws.length := by simpa using (fl_max hls hgood).1.len
      refine CallK.of (s61 (L1_new A _ ws.length hfl) (by omega)) ?_
      rw [hsr]
      by_cases hb : srv g < most P (lists ws)
      · have hbt : btB P ws g := ⟨hE, hb⟩
        have hne : ¬ ((most P (lists ws) : Nat) : Int) = ((srv g : Nat) : Int) := by omega
        unfold btV btH
        rw [if_pos hbt, if_pos hbt, decide_eq_true hbt]
        simp (maxSteps := 4000000) -implicitDefEqProofs -dsimp (disch := omega) only [↓AW_skip, ↓AW_ops, ↓AW_seq, ↓AW_cond, ↓AW_ret, ↓AOps_nil, ↓AOps_pu, on_some, extK_same, condB_f, ↓then_normal, ↓Fin_ret, pval, rd_S, rd_C, put_S, resV, resL, List.replicate_succ, List.replicate_zero, List.set_cons_zero, List.set_cons_succ, List.getElem?_cons_zero, List.getElem?_cons_succ, Option.getD_some, Nat.reduceSub, List.cons_append, List.nil_append, bin_eql, decide_false, hne]
        exact gc_same_all rfl rfl
      · have hbt : ¬ btB P ws g := fun h => hb h.2
        have hge := (most_spec (by have := hv.hP; omega) hls).2 g hgood
        have hee : ((most P (lists ws) : Nat) : Int) = ((srv g : Nat) : Int) := by omega
        unfold btV btH
        rw [if_neg hbt, if_neg hbt, decide_eq_false hbt]
        simp (maxSteps := 4000000) -implicitDefEqProofs -dsimp (disch := omega) only [↓AW_ops, ↓AW_seq, ↓AW_cond, ↓AW_ret, ↓AOps_nil, ↓AOps_pu, on_some, extK_same, condB_t, ↓then_normal, ↓then_ret, ↓Fin_ret, pval, rd_S, rd_C, put_S, resV, resL, eq_self, List.replicate_succ, List.replicate_zero, List.set_cons_zero, List.set_cons_succ, List.getElem?_cons_zero, List.getElem?_cons_succ, Option.getD_some, Nat.reduceSub, List.cons_append, List.nil_append, bin_eql, decide_true, hee]
        exact gc_val (pre_app A _) rfl
  · have hbt : ¬ btB P ws g := fun h => hE h.1
    unfold btV btH
    rw [if_neg hbt, if_neg hbt, decide_eq_false hbt]
    simp (maxSteps := 4000000) -implicitDefEqProofs -dsimp (disch := omega) only [↓AW_ops, ↓AW_seq, ↓AW_cond, ↓AW_ret, ↓AOps_nil, ↓AOps_pu, on_some, extK_same, condB_t, ↓then_normal, ↓then_ret, ↓Fin_ret, pval, rd_S, rd_C, put_S, resV, resL, List.replicate_succ, List.replicate_zero, List.set_cons_zero, List.set_cons_succ, List.getElem?_cons_zero, List.getElem?_cons_succ, Option.getD_some, Nat.reduceSub, List.cons_append, List.nil_append, bin_neq, decide_true, not_false_eq_true, hE]
    exact gc_same rfl
end Go.Proofs.Ytlmbobbefgcolaa

namespace Go.Eng
open Go
section
variable {P : Program} {α : Type}
theorem AOps_ex : ∀ (l : List MOp) {Q : α → List AV → AHeap → Prop} {S : List AV} {H : AHeap}, AOps P l (fun S H => ∃ x, Q x S H) S H → ∃ x, AOps P l (Q x) S H := by
  intro l
  induction l with
  | nil => intro Q S H h; exact h
  | cons o r ih =>
    intro Q S H h
    simp only [AOps] at h ⊢
    split at h
    · exact h.elim
    · rename_i t _
      cases t with
      | true =>
        simp only [if_true] at h ⊢
        obtain ⟨v, H1, h1, h2, h3⟩ := h
        obtain ⟨x, hx⟩ := ih h3
        exact ⟨x, v, H1, h1, h2, hx⟩
      | false =>
        simp only [Bool.false_eq_true, if_false] at h ⊢
        exact ih h
/-- A loop with a rank. -/
def LoopR (P : Program) (a : MCode) (Q : Post) (k : Nat) (S : List AV) (H : AHeap) : Prop :=
  ∃ (J : Nat → List AV → AHeap → Prop), J k S H ∧ ∀ k S H, J k S H → AW P a (MX.then (fun S' H' => ∃ k' S'', k' < k ∧ Forget S' S'' ∧ J k' S'' H') Q) S H
/-- One round, and then loops of a smaller rank. -/
theorem LoopR_step {a : MCode} {Q : Post} {k : Nat} {S : List AV} {H : AHeap} (h : AW P a (MX.then (fun S' H' => ∃ k' S'', k' < k ∧ Forget S' S'' ∧ LoopR P a Q k' S'' H') Q) S H) : LoopR P a Q k S H := by
  refine ⟨fun j S1 H1 => (j = k ∧ S1 = S ∧ H1 = H) ∨ (j < k ∧ LoopR P a Q j S1 H1), .inl ⟨rfl, rfl, rfl⟩, ?_⟩
  rintro j S1 H1 (⟨rfl, rfl, rfl⟩ | ⟨hj, J, h1, h2⟩)
  · refine AW_mono (fun e S' H' h' => ?_) h
    cases e with
    | normal =>
      obtain ⟨k', S'', g1, g2, g3⟩ := h'
      exact ⟨k', S'', g1, g2, .inr ⟨g1, g3⟩⟩
    | exit id => exact h'
    | ret => exact h'
  · refine AW_mono (fun e S' H' h' => ?_) (h2 j S1 H1 h1)
    cases e with
    | normal =>
      obtain ⟨k', S'', g1, g2, g3⟩ := h'
      exact ⟨k', S'', g1, g2, .inr ⟨by omega, J, g3, h2⟩⟩
    | exit id => exact h'
    | ret => exact h'
theorem inScope_mono {g : Nat} {K K' : List AV → AHeap → Prop} {Q : Post} {e : MX} {S : List AV} {H : AHeap} (hk : ∀ S H, K S H → K' S H) (h : MX.inScope g K Q e S H) : MX.inScope g K' Q e S H := by
  cases e with
  | normal => exact h
  | exit id =>
    simp only [MX.inScope] at h ⊢
    split at h
    · rename_i hi; rw [if_pos hi]; exact hk _ _ h
    · rename_i hi; rw [if_neg hi]; exact h
  | ret => exact h
theorem inScope_ex {g : Nat} {K : α → List AV → AHeap → Prop} {Q : α → Post} {e : MX} {S : List AV} {H : AHeap} (h : MX.inScope g (fun S H => ∃ x, K x S H) (fun e S H => ∃ x, Q x e S H) e S H) : ∃ x, MX.inScope g (K x) (Q x) e S H := by
  cases e with
  | normal => exact h
  | exit id =>
    simp only [MX.inScope] at h ⊢
    split at h
    · rename_i hi
      obtain ⟨x, hx⟩ := h
      exact ⟨x, by rw [if_pos hi]; exact hx⟩
    · rename_i hi
      split at h
      · exact h.elim
      · rename_i hj
        obtain ⟨x, hx⟩ := h
        exact ⟨x, by rw [if_neg hi, if_neg hj]; exact hx⟩
  | ret => exact h
/-- What stands behind a label, with a rank. -/
def ScopeR (P : Program) (g : Nat) (r : MCode) (Q : Post) (k : Nat) (S : List AV) (H : AHeap) : Prop :=
  ∃ (J : Nat → List AV → AHeap → Prop), J k S H ∧ ∀ k S H, J k S H → AW P r (MX.inScope g (fun S' H' => ∃ k' S'', k' < k ∧ Forget S' S'' ∧ J k' S'' H') Q) S H
theorem ScopeR_step {g : Nat} {r : MCode} {Q : Post} {k : Nat} {S : List AV} {H : AHeap} (h : AW P r (MX.inScope g (fun S' H' => ∃ k' S'', k' < k ∧ Forget S' S'' ∧ ScopeR P g r Q k' S'' H') Q) S H) : ScopeR P g r Q k S H := by
  refine ⟨fun j S1 H1 => (j = k ∧ S1 = S ∧ H1 = H) ∨ (j < k ∧ ScopeR P g r Q j S1 H1), .inl ⟨rfl, rfl, rfl⟩, ?_⟩
  rintro j S1 H1 (⟨rfl, rfl, rfl⟩ | ⟨hj, J, h1, h2⟩)
  · refine AW_mono (fun e S' H' h' => inScope_mono (fun S' H' h3 => ?_) h') h
    obtain ⟨k', S'', g1, g2, g3⟩ := h3
    exact ⟨k', S'', g1, g2, .inr ⟨g1, g3⟩⟩
  · refine AW_mono (fun e S' H' h' => inScope_mono (fun S' H' h3 => ?_) h') (h2 j S1 H1 h1)
    obtain ⟨k', S'', g1, g2, g3⟩ := h3
    exact ⟨k', S'', g1, g2, .inr ⟨by omega, J, g3, h2⟩⟩
/-- No region of two orders. -/
def noAlt : MCode → Bool
  | .ops2 _ _ => false
  | .seq a b => noAlt a && noAlt b
  | .cond _ a b => noAlt a && noAlt b
  | .block _ a => noAlt a
  | .loop a => noAlt a
  | .cut a => noAlt a
  | .scope _ a b => noAlt a && noAlt b
  | _ => true
theorem AW_ex : ∀ {m : MCode}, noAlt m = true → ∀ {Q : α → Post} {S : List AV} {H : AHeap}, AW P m (fun e S H => ∃ x, Q x e S H) S H → ∃ x, AW P m (Q x) S H := by
  intro m
  induction m with
  | skip => intro _ Q S H h; exact h
  | ops l => intro _ Q S H h; exact AOps_ex l h
  | ops2 l l' => intro hno; cases hno
  | seq a b iha ihb =>
    intro hno Q S H h
    simp only [noAlt, Bool.and_eq_true] at hno
    refine iha hno.1 (Q := fun x => MX.then (AW P b (Q x)) (Q x)) (AW_mono (fun e S H h => ?_) h)
    cases e with
    | normal => exact ihb hno.2 h
    | exit id => exact h
    | ret => exact h
  | cond c a b iha ihb =>
    intro hno Q S H h
    simp only [noAlt, Bool.and_eq_true] at hno
    simp only [AW] at h ⊢
    split at h
    · split at h
      · rename_i ht
        obtain ⟨x, hx⟩ := iha hno.1 h
        exact ⟨x, by rw [if_pos ht]; exact hx⟩
      · rename_i ht
        obtain ⟨x, hx⟩ := ihb hno.2 h
        exact ⟨x, by rw [if_neg ht]; exact hx⟩
    · exact h.elim
  | block id a iha =>
    intro hno Q S H h
    simp only [noAlt] at hno
    refine iha hno (Q := fun x => MX.inBlock id (Q x)) (AW_mono (fun e S H h => ?_) h)
    cases e with
    | normal => exact h
    | exit id' =>
      simp only [MX.inBlock] at h ⊢
      split at h
      · rename_i hi
        obtain ⟨x, hx⟩ := h
        exact ⟨x, by rw [if_pos hi]; exact hx⟩
      · rename_i hi
        obtain ⟨x, hx⟩ := h
        exact ⟨x, by rw [if_neg hi]; exact hx⟩
    | ret => exact h
  | loop a iha =>
    intro hno Q S H h
    simp only [noAlt] at hno
    obtain ⟨J, ⟨k0, S0, hf, hJ⟩, hstep⟩ := h
    have key : ∀ k S H, J k S H → ∃ x, LoopR P a (Q x) k S H := by
      intro k
      induction k using Nat.strongRecOn with
      | _ k ih =>
        intro S H hj
        have h1 := hstep k S H hj
        have h2 : ∃ x, AW P a (MX.then (fun S' H' => ∃ k' S'', k' < k ∧ Forget S' S'' ∧ LoopR P a (Q x) k' S'' H') (Q x)) S H := by
          refine iha hno (Q := fun x => MX.then (fun S' H' => ∃ k' S'', k' < k ∧ Forget S' S'' ∧ LoopR P a (Q x) k' S'' H') (Q x)) (AW_mono (fun e S' H' h' => ?_) h1)
          cases e with
          | normal =>
            obtain ⟨k', S'', g1, g2, g3⟩ := h'
            obtain ⟨x, hx⟩ := ih k' g1 S'' H' g3
            exact ⟨x, k', S'', g1, g2, hx⟩
          | exit id => exact h'
          | ret => exact h'
        obtain ⟨x, hx⟩ := h2
        exact ⟨x, LoopR_step hx⟩
    obtain ⟨x, J', h1, h2⟩ := key k0 S0 H hJ
    exact ⟨x, J', ⟨k0, S0, hf, h1⟩, h2⟩
  | exit id => intro _ Q S H h; exact h
  | cut a iha =>
    intro hno Q S H h
    simp only [noAlt] at hno
    obtain ⟨S0, h0, h1⟩ := h
    obtain ⟨x, hx⟩ := iha hno h1
    exact ⟨x, S0, h0, hx⟩
  | label l => intro _ Q S H h; exact h
  | scope g a r iha ihr =>
    intro hno Q S H h
    simp only [noAlt, Bool.and_eq_true] at hno
    obtain ⟨J, h0, hstep⟩ := h
    have key : ∀ k S H, J k S H → ∃ x, ScopeR P g r (Q x) k S H := by
      intro k
      induction k using Nat.strongRecOn with
      | _ k ih =>
        intro S H hj
        have h1 := hstep k S H hj
        have h2 : ∃ x, AW P r (MX.inScope g (fun S' H' => ∃ k' S'', k' < k ∧ Forget S' S'' ∧ ScopeR P g r (Q x) k' S'' H') (Q x)) S H := by
          refine ihr hno.2 (Q := fun x => MX.inScope g (fun S' H' => ∃ k' S'', k' < k ∧ Forget S' S'' ∧ ScopeR P g r (Q x) k' S'' H') (Q x)) (AW_mono (fun e S' H' h' => ?_) h1)
          refine inScope_ex (inScope_mono (fun S' H' h3 => ?_) h')
          obtain ⟨k', S'', g1, g2, g3⟩ := h3
          obtain ⟨x, hx⟩ := ih k' g1 S'' H' g3
          exact ⟨x, k', S'', g1, g2, hx⟩
        obtain ⟨x, hx⟩ := h2
        exact ⟨x, ScopeR_step hx⟩
    have h3 : ∃ x, AW P a (MX.inScope g (fun S' H' => ∃ k S'', Forget S' S'' ∧ ScopeR P g r (Q x) k S'' H') (Q x)) S H := by
      refine iha hno.1 (Q := fun x => MX.inScope g (fun S' H' => ∃ k S'', Forget S' S'' ∧ ScopeR P g r (Q x) k S'' H') (Q x)) (AW_mono (fun e S' H' h' => ?_) h0)
      refine inScope_ex (inScope_mono (fun S' H' h3 => ?_) h')
      obtain ⟨k, S'', g2, g3⟩ := h3
      obtain ⟨x, hx⟩ := key k S'' H' g3
      exact ⟨x, k, S'', g2, hx⟩
    obtain ⟨x, hx⟩ := h3
    refine ⟨x, fun k S H => ScopeR P g r (Q x) k S H, hx, ?_⟩
    rintro k S H ⟨J', j1, j2⟩
    refine AW_mono (fun e S' H' h' => inScope_mono (fun S' H' h3 => ?_) h') (j2 k S H j1)
    obtain ⟨k', S'', g1, g2, g3⟩ := h3
    exact ⟨k', S'', g1, g2, J', g3, j2⟩
  | ret => intro _ Q S H h; exact h
  | fail => intro _ Q S H h; exact h.elim
theorem AW_false : ∀ {m : MCode}, noAlt m = true → ∀ {S : List AV} {H : AHeap}, ¬ AW P m (fun _ _ _ => False) S H := by
  intro m hno S H h
  have h2 : AW P m (fun e S H => ∃ x : Empty, (fun (_ : Empty) (_ : MX) (_ : List AV) (_ : AHeap) => True) x e S H) S H := AW_mono (fun _ _ _ h => h.elim) h
  obtain ⟨x, _⟩ := AW_ex hno h2
  exact x.elim
/-- The end of a function, where what it hands back need not be known ahead. -/
def FinR (res : List PAct) (H : AHeap) (R : AV → AHeap → Prop) : Post := fun e S H1 => ∃ x : AV × AHeap, Fin res H x.1 x.2 e S H1 ∧ R x.1 x.2
theorem FinR_ret (res : List PAct) (H : AHeap) (R : AV → AHeap → Prop) (S : List AV) (H1 : AHeap) : FinR res H R .ret S H1 = on (resV res S) (fun v1 => ∃ v H', GC H v1 H1 v H' ∧ R v H') ⟨⟩ := by
  apply propext
  unfold FinR
  simp only [Fin_ret]
  unfold on
  cases resV res S with
  | none => simp
  | some v1 =>
    constructor
    · rintro ⟨x, h1, h2⟩; exact ⟨_, _, h1, h2⟩
    · rintro ⟨v, H', h1, h2⟩; exact ⟨(v, H'), h1, h2⟩
theorem FinR_normal (res : List PAct) (H : AHeap) (R : AV → AHeap → Prop) (S : List AV) (H1 : AHeap) : FinR res H R .normal S H1 = on (resV res S) (fun v1 => ∃ v H', GC H v1 H1 v H' ∧ R v H') ⟨⟩ := by
  apply propext
  unfold FinR
  simp only [Fin_normal]
  unfold on
  cases resV res S with
  | none => simp
  | some v1 =>
    constructor
    · rintro ⟨x, h1, h2⟩; exact ⟨_, _, h1, h2⟩
    · rintro ⟨v, H', h1, h2⟩; exact ⟨(v, H'), h1, h2⟩
/-- A function's contract, where the result is told by what it is like. -/
theorem acallsR (hm : P.follows .mixedOrders = true) {f : FuncId} {fn : Func} (hf : P.funcs[f]? = some fn) (hn : (fn.name == "runtime.NumGoroutine") = false) {bx cs : List Nat} {m : MFun} (ht : trF P bx cs fn = some m) {args : List AV} {H : AHeap} (R : AV → AHeap → Prop) (n : Nat)
    (hl : args.length = n) (hb : m.bx.all (fun d => decide (n ≤ d)) = true) (hA : AW P m.body (FinR m.res H R) (args ++ List.replicate (m.nt - n) .junk) H) (hno : noAlt m.body = true := by rfl) : ∃ v H', ACalls P f args H v H' ∧ R v H' := by
  obtain ⟨x, hx⟩ := AW_ex hno (Q := fun (x : AV × AHeap) e S H1 => Fin m.res H x.1 x.2 e S H1 ∧ R x.1 x.2) hA
  have hR : R x.1 x.2 := by
    refine Classical.byContradiction (fun hn => ?_)
    have : AW P m.body (fun _ _ _ => False) (args ++ List.replicate (m.nt - n) .junk) H := AW_mono (fun _ _ _ h => hn h.2) hx
    exact AW_false hno this
  exact ⟨x.1, x.2, acalls hm hf hn ht n hl hb (AW_mono (fun _ _ _ h => h.1) hx), hR⟩
end
end Go.Eng

namespace Go.Eng
open Go
theorem AccL_push2 {α : Type} {es : Nat} {e : α → List AV} {H H1 : AHeap} {v : AV} {xs : List α} (h : AccL es e H H1 v xs) (he : ∀ x, (e x).length = es) (h0 : 0 < es) (x : α) (hl : xs.length + 1 ≤ lim) :
    ∃ v' H2, appA es (H1 ++ [.cells true (e x)]) v (.sl es H1.length 0 1 true) = some (v', H2) ∧ AccL es e H H2 v' (xs ++ [x]) ∧
      (∀ k o, H1[k]? = some o → (∀ n len, v = .sl es n 0 len false → k ≠ n) → H2[k]? = some o) ∧ ∃ n len, v' = .sl es n 0 len false ∧ H1.length ≤ n := by
  obtain ⟨v', H2, happ, hacc⟩ := h.push he x hl
  refine ⟨v', H2, happ, hacc, ?_⟩
  have hc := slCells_new (es := es) H1 (e x) (he x)
  rcases h.2.2 with ⟨h3, rfl⟩ | ⟨h3, n, rfl, h5, h6⟩
  · unfold appA at happ
    rw [hc] at happ
    simp [lim] at happ
    obtain ⟨rfl, rfl⟩ := happ
    refine ⟨fun k o hk _ => ?_, _, _, rfl, by simp⟩
    have hlt := (List.getElem?_eq_some_iff.1 hk).1
    first
      | (rw [List.getElem?_append_left hlt]; exact hk)
      | (rw [List.getElem?_append_left (by rw [List.length_append]; omega), List.getElem?_append_left hlt]; exact hk)
  · have hlt := (List.getElem?_eq_some_iff.1 h6).1
    have hget : (H1 ++ [AObj.cells true (e x)])[n]? = some (.cells true (xs.flatMap e)) := by rw [List.getElem?_append_left hlt]; exact h6
    have hfl := flatMap_length he xs
    unfold appA at happ
    rw [hc] at happ
    simp only [hget, Nat.one_ne_zero, if_false, if_true, true_and] at happ
    rw [if_pos hl, if_pos (by omega)] at happ
    simp only [Bool.false_eq_true, if_false, Option.some.injEq, Prod.mk.injEq] at happ
    obtain ⟨rfl, rfl⟩ := happ
    refine ⟨fun k o hk hne => ?_, _, _, rfl, by simp⟩
    have hk1 := (List.getElem?_eq_some_iff.1 hk).1
    have hkn := hne n xs.length rfl
    rw [List.getElem?_append_left (by simp; omega), List.getElem?_set_ne (Ne.symm hkn), List.getElem?_append_left hk1]
    exact hk
theorem AccL_base0 {α : Type} {es : Nat} {e : α → List AV} {A0 A H : AHeap} {v : AV} {xs : List α} (hp : A0 <+: A) (h : AccL es e A H v xs) : AccL es e A0 H v xs := by
  obtain ⟨h1, h2, h3⟩ := h
  refine ⟨hp.trans h1, h2, ?_⟩
  rcases h3 with h4 | ⟨h0, n, h4, h5, h6⟩
  · exact .inl h4
  · exact .inr ⟨h0, n, h4, Nat.le_trans hp.length_le h5, h6⟩
end Go.Eng

namespace Go.Proofs.Ytlmbobbefgcolaa
open Go Go.Eng
/-- Where the rows of a list of lists stand: each in an object of its own that the call has made, with more cells behind. -/
structure NR (A H : AHeap) (u : AV) (x : AV × List Int) : Prop where
  row : (x.1 = .nilS ∧ x.2 = []) ∨ ∃ n full cs, x.1 = .sl 1 n 0 x.2.length full ∧ A.length ≤ n ∧ H[n]? = some (.cells true (x.2.flatMap e1 ++ cs)) ∧ nm u ≠ n
theorem NR.l1 {A H : AHeap} {u : AV} {x : AV × List Int} (h : NR A H u x) : L1 H x.1 x.2 := by
  rcases h.row with ⟨h1, h2⟩ | ⟨n, full, cs, h1, _, h3, _⟩
  · rw [h1, h2]; exact L1_nil _
  · rw [h1]
    refine ⟨e1_len, ?_⟩
    have hl := flatMap_length e1_len x.2
    simp only [slCells, cellsAt, h3, if_true, Nat.zero_add]
    rw [if_pos (by rw [List.length_append]; omega)]
    simp only [List.drop_zero, Option.map_some, Option.some.injEq, Prod.mk.injEq, true_and]
    rw [← hl, List.take_left]
/-- Rows stand in different objects. -/
def Apart (ws : List (AV × List Int)) : Prop := ws.Pairwise (fun x y => x.1 = .nilS ∨ y.1 = .nilS ∨ nm x.1 ≠ nm y.1)
/-- A list of lists that the call has made. -/
structure NL (A H : AHeap) (u : AV) (ws : List (AV × List Int)) : Prop where
  acc : AccL 1 e0 A H u ws
  rows : ∀ x ∈ ws, NR A H u x
  apart : Apart ws
theorem NL.nil {A H : AHeap} (h : A <+: H) : NL A H .nilS [] := ⟨AccL.nil h, by simp, List.Pairwise.nil⟩
/-- One row more. -/
theorem NL.push {A H : AHeap} {u : AV} {ws : List (AV × List Int)} (h : NL A H u ws) (x : AV × List Int) (hx : (x.1 = .nilS ∧ x.2 = [] ∧ True) ∨ ∃ n full cs, x.1 = .sl 1 n 0 x.2.length full ∧ A.length ≤ n ∧ H[n]? = some (.cells true (x.2.flatMap e1 ++ cs)) ∧ nm u ≠ n ∧ ∀ y ∈ ws, y.1 = .nilS ∨ nm y.1 ≠ n) (hl : ws.length + 1 ≤ lim) :
    ∃ v' H2, appA 1 (H ++ [.cells true [x.1]]) u (.sl 1 H.length 0 1 true) = some (v', H2) ∧ NL A H2 v' (ws ++ [x]) := by
  obtain ⟨v', H2, h1, h2, h3, n', len', h4, h5⟩ := AccL_push2 h.acc e0_len (by omega) x hl
  have hold : ∀ (y : AV × List Int), NR A H u y → NR A H2 v' y := by
    intro y hy
    refine ⟨?_⟩
    rcases hy.row with h6 | ⟨n, full, cs, g1, g2, g3, g4⟩
    · exact .inl h6
    · have hn := (List.getElem?_eq_some_iff.1 g3).1
      refine .inr ⟨n, full, cs, g1, g2, h3 n _ g3 (fun k len hk hnk => ?_), ?_⟩
      · rw [hk] at g4; exact g4 hnk.symm
      · rw [h4]; simp only [nm]; omega
  have hxr : NR A H u x := by
    refine ⟨?_⟩
    rcases hx with ⟨a, b, _⟩ | ⟨n, full, cs, g1, g2, g3, g4, _⟩
    · exact .inl ⟨a, b⟩
    · exact .inr ⟨n, full, cs, g1, g2, g3, g4⟩
  refine ⟨v', H2, h1, h2, fun y hy => ?_, ?_⟩
  · rcases List.mem_append.1 hy with hy | hy
    · exact hold y (h.rows y hy)
    · have : y = x := by simpa using hy
      rw [this]; exact hold x hxr
  · unfold Apart
    rw [List.pairwise_append]
    refine ⟨h.apart, by simp, fun a ha b hb => ?_⟩
    have : b = x := by simpa using hb
    subst this
    rcases hx with ⟨g1, _⟩ | ⟨n, full, cs, g1, _, _, _, g5⟩
    · exact .inr (.inl g1)
    · rcases g5 a ha with g | g
      · exact .inl g
      · refine .inr (.inr ?_)
        rw [g1]; exact g
theorem NL.mono {A H H' : AHeap} {u : AV} {ws : List (AV × List Int)} (h : NL A H u ws) (hp : H <+: H') : NL A H' u ws := by
  refine ⟨h.acc.mono hp, fun x hx => ⟨?_⟩, h.apart⟩
  rcases (h.rows x hx).row with h6 | ⟨n, full, cs, g1, g2, g3, g4⟩
  · exact .inl h6
  · exact .inr ⟨n, full, cs, g1, g2, pre_get hp g3, g4⟩
theorem NL.lt {A H : AHeap} {u : AV} {ws : List (AV × List Int)} (h : NL A H u ws) : (∀ y ∈ ws, y.1 = .nilS ∨ nm y.1 < H.length) ∧ (ws = [] ∨ nm u < H.length) := by
  refine ⟨fun y hy => ?_, ?_⟩
  · rcases (h.rows y hy).row with ⟨h6, _⟩ | ⟨n, full, cs, g1, g2, g3, g4⟩
    · exact .inl h6
    · right; rw [g1]; exact (List.getElem?_eq_some_iff.1 g3).1
  · rcases h.acc.2.2 with ⟨h3, _⟩ | ⟨h3, n, h4, h5, h6⟩
    · exact .inl (List.eq_nil_of_length_eq_zero h3)
    · right; rw [h4]; exact (List.getElem?_eq_some_iff.1 h6).1
theorem NL.base {A0 A H : AHeap} {u : AV} {ws : List (AV × List Int)} (hp : A0 <+: A) (h : NL A H u ws) : NL A0 H u ws := by
  refine ⟨AccL_base0 hp h.acc, fun x hx => ⟨?_⟩, h.apart⟩
  rcases (h.rows x hx).row with h6 | ⟨n, full, cs, g1, g2, g3, g4⟩
  · exact .inl h6
  · exact .inr ⟨n, full, cs, g1, Nat.le_trans hp.length_le g2, g3, g4⟩
end Go.Proofs.Ytlmbobbefgcolaa

namespace Go.Proofs.Ytlmbobbefgcolaa
open Go Go.Eng
/-- cmp.isNaN[int] [] -/
def m103 : MFun := ⟨6, [], [.mov (.s 2)],
 .seq (.ops [⟨(some 2), some undefA, none, false, .pu (.mov (.c (.bool false)))⟩])
 (.seq (.ops [⟨(some 3), some undefA, none, false, .pu (.mov (.s 0))⟩,
   ⟨(some 4), some undefA, none, false, .pu (.mov (.s 0))⟩,
   ⟨(some 5), some undefA, none, false, .pu (.bin .neq (.s 3) (.s 4))⟩,
   ⟨(some 2), some undefA, none, false, .pu (.mov (.s 5))⟩])
 (.ret))⟩
theorem t103 : trF Try.prog [] [] Try.f103 = some m103 := by kernel_rfl
end Go.Proofs.Ytlmbobbefgcolaa

namespace Go.Proofs.Ytlmbobbefgcolaa
open Go Go.Eng
theorem s103 (a : Int) (A : AHeap) : ACalls Try.prog 103 [I a] A (B false) A := by
  refine acalls hmix Try.func103 (by kernel_rfl) t103 1 rfl (by decide) ?_
  dsimp only [m103]
  simp (maxSteps := 4000000) -implicitDefEqProofs -dsimp (disch := omega) only [↓AW_ops, ↓AW_seq, ↓AW_ret, ↓AOps_nil, ↓AOps_pu, on_some, ↓then_normal, ↓Fin_ret, pval, rd_S, rd_C, put_S, resV, resL, eq_self, List.replicate_succ, List.replicate_zero, List.set_cons_zero, List.set_cons_succ, List.getElem?_cons_zero, List.getElem?_cons_succ, Option.getD_some, Nat.reduceSub, List.cons_append, List.nil_append, bin_neq, decide_false, not_true_eq_false]
  exact gc_same rfl
theorem s97 (a b : Int) (A : AHeap) : ACalls Try.prog 97 [I a, I b] A (I (if a < b then -1 else if b < a then 1 else 0)) A := by
  refine acalls hmix Try.func97 (by kernel_rfl) t97 2 rfl (by decide) ?_
  dsimp only [m97]
  simp (maxSteps := 4000000) -implicitDefEqProofs -dsimp (disch := omega) only [↓AW_ops, ↓AW_seq, ↓AOps_nil, ↓AOps_pu, ↓AOps_call, on_some, ↓then_normal, pval, rd_S, rd_C, put_S, List.replicate_succ, List.replicate_zero, List.set_cons_zero, List.set_cons_succ, List.getElem?_cons_zero, List.getElem?_cons_succ, Option.getD_some, map_c, map_n, Nat.reduceSub, List.cons_append, List.nil_append]
  refine CallK.of (s103 a A) ?_
  simp (maxSteps := 4000000) -implicitDefEqProofs -dsimp (disch := omega) only [↓AW_ops, ↓AW_seq, ↓AOps_nil, ↓AOps_pu, ↓AOps_call, on_some, extK_same, ↓then_normal, pval, rd_S, put_S, List.replicate_succ, List.replicate_zero, List.set_cons_zero, List.set_cons_succ, List.getElem?_cons_zero, List.getElem?_cons_succ, Option.getD_some, map_c, map_n, Nat.reduceSub, List.cons_append, List.nil_append]
  refine CallK.of (s103 b A) ?_
  simp (maxSteps := 4000000) -implicitDefEqProofs -dsimp (disch := omega) only [↓AW_skip, ↓AW_ops, ↓AW_seq, ↓AW_cond, ↓AOps_nil, ↓AOps_pu, on_some, extK_same, condB_f, ↓then_normal, pval, rd_S, put_S, List.replicate_succ, List.replicate_zero, List.set_cons_zero, List.set_cons_succ, List.getElem?_cons_zero, List.getElem?_cons_succ, Option.getD_some, Nat.reduceSub, List.cons_append, List.nil_append, bin_lss]
  by_cases h1 : a < b
  · simp (maxSteps := 4000000) -implicitDefEqProofs -dsimp (disch := omega) only [↓AW_ops, ↓AW_seq, ↓AW_ret, ↓AOps_nil, ↓AOps_pu, on_some, condB_t, ↓then_normal, ↓then_ret, ↓Fin_ret, pval, rd_S, rd_C, put_S, resV, resL, List.replicate_succ, List.replicate_zero, List.set_cons_zero, List.set_cons_succ, List.getElem?_cons_zero, List.getElem?_cons_succ, Option.getD_some, Nat.reduceSub, List.cons_append, List.nil_append, if_true, decide_true, Int.reduceNeg, h1]
    exact gc_same rfl
  · by_cases h2 : b < a
    · simp (maxSteps := 4000000) -implicitDefEqProofs -dsimp (disch := omega) only [↓AW_skip, ↓AW_ops, ↓AW_seq, ↓AW_cond, ↓AW_ret, ↓AOps_nil, ↓AOps_pu, on_some, condB_t, condB_f, ↓then_normal, ↓then_ret, ↓Fin_ret, pval, rd_S, rd_C, put_S, resV, resL, List.replicate_succ, List.replicate_zero, List.set_cons_zero, List.set_cons_succ, List.getElem?_cons_zero, List.getElem?_cons_succ, Option.getD_some, Nat.reduceSub, List.cons_append, List.nil_append, bin_gtr, if_true, if_false, decide_true, decide_false, Int.reduceNeg, h1, h2]
      exact gc_same rfl
    · simp (maxSteps := 4000000) -implicitDefEqProofs -dsimp (disch := omega) only [↓AW_skip, ↓AW_ops, ↓AW_seq, ↓AW_cond, ↓AW_ret, ↓AOps_nil, ↓AOps_pu, on_some, condB_f, ↓then_normal, ↓Fin_ret, pval, rd_S, rd_C, put_S, resV, resL, List.replicate_succ, List.replicate_zero, List.set_cons_zero, List.set_cons_succ, List.getElem?_cons_zero, List.getElem?_cons_succ, Option.getD_some, Nat.reduceSub, List.cons_append, List.nil_append, bin_gtr, if_false, decide_false, Int.reduceNeg, h1, h2]
      exact gc_same rfl
/-- How one list stands to another one. -/
def cmpL : List Int → List Int → Int
  | a :: a1, b :: b1 => if a < b then -1 else if b < a then 1 else cmpL a1 b1
  | _, _ => 0
theorem cmpL_pos : ∀ (a b : List Int), 0 < cmpL a b ↔ leL a b = false
  | [], _ => by simp [cmpL, leL]
  | _ :: _, [] => by simp [cmpL, leL]
  | a :: a1, b :: b1 => by
    have ih := cmpL_pos a1 b1
    have e : leL (a :: a1) (b :: b1) = (decide (a < b) || (a == b && leL a1 b1)) := rfl
    rw [cmpL, e]
    by_cases h1 : a < b
    · rw [if_pos h1, decide_eq_true h1]; simp
    · rw [if_neg h1, decide_eq_false h1]
      by_cases h2 : b < a
      · rw [if_pos h2]
        have : (a == b) = false := by simp; omega
        rw [this]; simp
      · rw [if_neg h2, ih]
        have : (a == b) = true := by simp; omega
        rw [this]; simp
theorem c_Compare {xs ys : List Int} {v u : AV} {A : AHeap} (hx : L1 A v xs) (hy : L1 A u ys) (hl : xs.length ≤ 1000000) (he : xs.length = ys.length) : ACalls Try.prog 82 [v, u] A (I (cmpL xs ys)) A := by
  refine acalls hmix Try.func82 (by kernel_rfl) t82 2 rfl (by decide) ?_
  dsimp only [m82]
  simp (maxSteps := 4000000) -implicitDefEqProofs -dsimp (disch := omega) only [↓AW_ops, ↓AW_seq, ↓AW_block, ↓AOps_nil, ↓AOps_pu, on_some, ↓then_normal, pval, rd_S, rd_C, put_S, ↓AW_toLoop, List.replicate_succ, List.replicate_zero, List.set_cons_zero, List.set_cons_succ, List.getElem?_cons_zero, List.getElem?_cons_succ, Option.getD_some, Nat.reduceSub, List.cons_append, List.nil_append, hx.len]
  refine LoopK.by 36 (fun i : Nat => i ≤ xs.length ∧ cmpL xs ys = cmpL (xs.drop i) (ys.drop i)) (fun i => [(0, v), (1, u), (9, v), (10, I xs.length), (11, I i)]) (fun _ => A) (fun i => xs.length - i) 0 ⟨by omega, rfl⟩ rfl (by simp [Has, rd_s]) rfl ?_
  rintro i ⟨hi, hc⟩
  by_cases hlt : i < xs.length
  · obtain ⟨z, hz⟩ : ∃ z, xs[i]? = some z := ⟨_, List.getElem?_eq_getElem hlt⟩
    have hlt' : (i : Int) < xs.length := by omega
    have hlt2 : i < ys.length := by omega
    have hlt2' : ¬ (ys.length : Int) ≤ i := by omega
    obtain ⟨w, hw⟩ : ∃ w, ys[i]? = some w := ⟨_, List.getElem?_eq_getElem hlt2⟩
    have hdx : xs.drop i = z :: xs.drop (i + 1) := by
      have := (List.getElem?_eq_some_iff.1 hz).2
      rw [← this]; exact List.drop_eq_getElem_cons hlt
    have hdy : ys.drop i = w :: ys.drop (i + 1) := by
      have := (List.getElem?_eq_some_iff.1 hw).2
      rw [← this]; exact List.drop_eq_getElem_cons hlt2
    rw [hdx, hdy, cmpL] at hc
    simp (maxSteps := 4000000) -implicitDefEqProofs -dsimp (disch := omega) only [↓AW_skip, ↓AW_ops, ↓AW_seq, ↓AW_cond, ↓AW_block, ↓AOps_nil, ↓AOps_pu, ↓AOps_ld, ↓AOps_call, on_some, condB_t, condB_f, ↓then_normal, pval, lval, rd_S, put_S, partA, eq_self, mk, List.foldl_cons, List.foldl_nil, List.replicate_succ, List.replicate_zero, List.set_cons_zero, List.set_cons_succ, List.getElem?_cons_zero, List.getElem?_cons_succ, List.drop_zero, List.take_succ_cons, List.take_nil, Option.getD_some, map_c, map_n, List.length_cons, List.length_nil, Nat.reduceLeDiff, Nat.zero_add, bin_lss, bin_geq, if_true, if_false, Bool.false_eq_true, decide_true, decide_false, Go.Eng.e1, hlt', hx.idx hlt, hx.ld0 hz 1 false (by decide), hy.len, hy.idx hlt2, hy.ld0 hw 1 false (by decide), hlt2']
    refine CallK.of (s97 z w A) ?_
    by_cases h1 : z < w
    · rw [if_pos h1] at hc ⊢
      simp (maxSteps := 4000000) -implicitDefEqProofs -dsimp (disch := omega) only [↓AW_ops, ↓AW_seq, ↓AW_cond, ↓AW_ret, ↓AOps_nil, ↓AOps_pu, on_some, extK_same, condB_t, ↓then_normal, ↓then_ret, ↓inBlock_ret, ↓Fin_ret, pval, rd_S, rd_C, put_S, resV, resL, mk, List.foldl_cons, List.foldl_nil, List.replicate_succ, List.replicate_zero, List.set_cons_zero, List.set_cons_succ, List.getElem?_cons_zero, List.getElem?_cons_succ, Option.getD_some, bin_neq, decide_true, not_false_eq_true, Int.reduceNeg, show ¬ (-1 : Int) = 0 by decide]
      exact gc_same (by rw [hc])
    · rw [if_neg h1] at hc ⊢
      by_cases h2 : w < z
      · rw [if_pos h2] at hc ⊢
        simp (maxSteps := 4000000) -implicitDefEqProofs -dsimp (disch := omega) only [↓AW_ops, ↓AW_seq, ↓AW_cond, ↓AW_ret, ↓AOps_nil, ↓AOps_pu, on_some, extK_same, condB_t, ↓then_normal, ↓then_ret, ↓inBlock_ret, ↓Fin_ret, pval, rd_S, rd_C, put_S, resV, resL, mk, List.foldl_cons, List.foldl_nil, List.replicate_succ, List.replicate_zero, List.set_cons_zero, List.set_cons_succ, List.getElem?_cons_zero, List.getElem?_cons_succ, Option.getD_some, bin_neq, decide_true, not_false_eq_true, show ¬ (1 : Int) = 0 by decide]
        exact gc_same (by rw [hc])
      · rw [if_neg h2] at hc ⊢
        simp (maxSteps := 4000000) -implicitDefEqProofs -dsimp (disch := omega) only [↓AW_skip, ↓AW_ops, ↓AW_seq, ↓AW_cond, ↓AOps_nil, ↓AOps_pu, on_some, extK_same, condB_f, ↓then_normal, ↓inBlock_normal, pval, rd_S, rd_C, put_S, eq_self, mk, List.foldl_cons, List.foldl_nil, List.replicate_succ, List.replicate_zero, List.set_cons_zero, List.set_cons_succ, List.getElem?_cons_zero, List.getElem?_cons_succ, Option.getD_some, List.length_cons, List.length_nil, Nat.reduceAdd, Nat.zero_add, bin_add, bin_neq, w64, decide_false, true_and, not_true_eq_false]
        exact ⟨i + 1, ⟨hlt, hc⟩, by simp [Has, rd_s], by omega⟩
  · have hlt' : ¬ ((i : Int) < xs.length) := by omega
    have hge : ¬ ((xs.length : Int) < ys.length) := by omega
    rw [List.drop_of_length_le (by omega), List.drop_of_length_le (by omega)] at hc
    simp (maxSteps := 4000000) -implicitDefEqProofs -dsimp (disch := omega) only [↓AW_skip, ↓AW_ops, ↓AW_seq, ↓AW_cond, ↓AW_exit, ↓AW_ret, ↓AOps_nil, ↓AOps_pu, on_some, condB_f, ↓then_normal, ↓then_exit, ↓inBlock_exit, ↓Fin_ret, pval, rd_S, rd_C, put_S, resV, resL, eq_self, mk, List.foldl_cons, List.foldl_nil, List.replicate_succ, List.replicate_zero, List.set_cons_zero, List.set_cons_succ, List.getElem?_cons_zero, List.getElem?_cons_succ, Option.getD_some, bin_lss, if_true, decide_false, hlt', hx.len, hy.len, hge]
    exact gc_same (by rw [hc]; rfl)
theorem ld_one {H : AHeap} {n : Nat} {x : AV} {rw : Bool} (h : H[n]? = some (.cells rw [x])) : ldA 1 false (.ptr n 0) H = some x := by
  simp [ldA, partA, h]
theorem ld_two {H : AHeap} {n : Nat} {x y : AV} {rw : Bool} (h : H[n]? = some (.cells rw [x, y])) : ldA 2 true (.ptr n 0) H = some (.agg [x, y]) ∧ ldA 1 false (.ptr n 1) H = some y := by
  simp [ldA, partA, h]
theorem st_one {H : AHeap} {n : Nat} {x y : AV} (h : H[n]? = some (.cells true [x])) (hy : y.cells? = some [y]) : stA 1 (.ptr n 0) y H = some (H.set n (.cells true [y])) := by
  simp [stA, h, hy, splice]
/-- The numbers of the objects: the wishes, the best giving, the giving that is tried, the function itself, and the cells of what is tried. -/
structure HN where
  w : Nat
  b : Nat
  n : Nat
  t : Nat
  o : Nat
structure HD (A : AHeap) (N : HN) : Prop where
  w : A.length ≤ N.w
  b : A.length ≤ N.b
  n : A.length ≤ N.n
  t : A.length ≤ N.t
  o : A.length ≤ N.o
  wb : N.w ≠ N.b
  wo : N.w ≠ N.o
  nb : N.n ≠ N.b
  no : N.n ≠ N.o
  tb : N.t ≠ N.b
  to : N.t ≠ N.o
  ob : N.o ≠ N.b
/-- What memory is like while the givings are tried. -/
structure HC (P : Int) (v : AV) (A H : AHeap) (N : HN) (b : Option (List Int)) (now : List Int) : Prop where
  pre : A <+: H
  hw : H[N.w]? = some (.cells true [I P, v])
  ht : H[N.t]? = some (.cells true [.fn 81 [.ptr N.n 0, .ptr N.b 0, .ptr N.w 0, .ptr N.t 0]])
  hn : H[N.n]? = some (.cells true [.sl 1 N.o 0 now.length false])
  ho : H[N.o]? = some (.cells true (now.flatMap e1))
  hb : ∃ y, H[N.b]? = some (.cells true [y]) ∧ ((b = none ∧ y = .nilS) ∨ ∃ g k, b = some g ∧ y = .sl 1 k 0 g.length false ∧ H[k]? = some (.cells true (g.flatMap e1)) ∧ k ≠ N.o ∧ k ≠ N.b ∧ A.length ≤ k)
section
variable {P : Int} {v : AV} {A H H' : AHeap} {N : HN} {b : Option (List Int)} {now : List Int}
theorem HC.mono (h : HC P v A H N b now) (hp : H <+: H') : HC P v A H' N b now := by
  obtain ⟨y, h1, h2⟩ := h.hb
  refine ⟨h.pre.trans hp, pre_get hp h.hw, pre_get hp h.ht, pre_get hp h.hn, pre_get hp h.ho, y, pre_get hp h1, ?_⟩
  rcases h2 with h2 | ⟨g, k, a1, a2, a3, a4⟩
  · exact .inl h2
  · exact .inr ⟨g, k, a1, a2, pre_get hp a3, a4⟩
theorem HC.ol (hd : HD A N) (h : HC P v A H N b now) : OL 1 e1 A H N.o (.sl 1 N.o 0 now.length false) now := ⟨e1_len, h.pre, hd.o, h.ho, false, rfl⟩
theorem HC.put (hd : HD A N) (h : HC P v A H N b now) (i : Nat) (z : Int) : HC P v A (H.set N.o (.cells true ((now.set i z).flatMap e1))) N b (now.set i z) := by
  obtain ⟨y, h1, h2⟩ := h.hb
  have hl := (List.getElem?_eq_some_iff.1 h.ho).1
  have ne : ∀ m, m ≠ N.o → (H.set N.o (.cells true ((now.set i z).flatMap e1)))[m]? = H[m]? := fun m hm => List.getElem?_set_ne (Ne.symm hm)
  refine ⟨pre_set h.pre hd.o _, ?_, ?_, ?_, ?_, y, ?_, ?_⟩
  · rw [ne _ hd.wo]; exact h.hw
  · rw [ne _ hd.to]; exact h.ht
  · rw [ne _ hd.no, List.length_set]; exact h.hn
  · rw [List.getElem?_set_self hl]
  · rw [ne _ (Ne.symm hd.ob)]; exact h1
  · rcases h2 with h2 | ⟨g, k, a1, a2, a3, a4, a5⟩
    · exact .inl h2
    · exact .inr ⟨g, k, a1, a2, by rw [ne _ a4]; exact a3, a4, a5⟩
theorem HC.best (hd : HD A N) (h : HC P v A H N b now) {g : List Int} {k : Nat} (hk : H[k]? = some (.cells true (g.flatMap e1))) (k1 : k ≠ N.o) (k2 : k ≠ N.b) (k3 : A.length ≤ k) : HC P v A (H.set N.b (.cells true [.sl 1 k 0 g.length false])) N (some g) now := by
  obtain ⟨y, h1, _⟩ := h.hb
  have hl := (List.getElem?_eq_some_iff.1 h1).1
  have ne : ∀ m, m ≠ N.b → (H.set N.b (.cells true [.sl 1 k 0 g.length false]))[m]? = H[m]? := fun m hm => List.getElem?_set_ne (Ne.symm hm)
  refine ⟨pre_set h.pre hd.b _, ?_, ?_, ?_, ?_, .sl 1 k 0 g.length false, ?_, .inr ⟨g, k, rfl, rfl, ?_, k1, k2, k3⟩⟩
  · rw [ne _ hd.wb]; exact h.hw
  · rw [ne _ hd.tb]; exact h.ht
  · rw [ne _ hd.nb]; exact h.hn
  · rw [ne _ hd.ob]; exact h.ho
  · rw [List.getElem?_set_self hl]
  · rw [ne _ k2]; exact hk
end
theorem set_take {α : Type} {xs : List α} {i : Nat} {z : α} (h : i < xs.length) : (xs.set i z).take (i + 1) = xs.take i ++ [z] := by
  rw [List.take_add_one, List.getElem?_set_self h, Option.toList_some, List.take_set_of_le (Nat.le_refl _)]
theorem take_take1 {xs ys : List Int} {i : Nat} {z : Int} (h : xs.take (i + 1) = ys.take i ++ [z]) (hi : i < ys.length) : xs.take i = ys.take i := by
  have := congrArg (List.take i) h
  rw [List.take_take, show min i (i + 1) = i by omega, List.take_append_of_le_length (by rw [List.length_take]; omega), List.take_take, show min i i = i by omega] at this
  exact this
set_option maxRecDepth 20000 in
set_option maxHeartbeats 16000000 in
theorem s81 {P : Int} {ws : List (AV × List Int)} {v : AV} {A : AHeap} {N : HN} (hd : HD A N) (h0 : vW P (lists ws) = 0) (hw : LL A v ws) (hs : Sz ws) : ∀ (d i k : Nat) (H : AHeap) (b : Option (List Int)) (now : List Int), ws.length - i = d → i ≤ ws.length → k ≤ 100 →
    HC P v A H N b now → now.length = ws.length → Pre (lists ws) (-1) i (now.take i) → (∀ g, b = some g → Good P (lists ws) g) →
    ∃ r H', ACalls Try.prog 81 ([I i, I k] ++ [.ptr N.n 0, .ptr N.b 0, .ptr N.w 0, .ptr N.t 0]) H r H' ∧ r = .tuple [] ∧ ∃ b' now', HC P v A H' N b' now' ∧ now'.length = ws.length ∧ now'.take i = now.take i ∧ (∀ g, b' = some g → Good P (lists ws) g) ∧ UpB P (lists ws) b (Ext (lists ws) i k (now.take i)) b' := by
  have hv := val_of h0
  have hP := hv.hP
  have hn7 : ws.length ≤ 7 := by simpa using hv.n
  have hwl : (lists ws).length = ws.length := by simp
  have hls : ∀ l ∈ lists ws, ∀ p ∈ l, inP P p := fun l hl => (hv.l l hl).1
  have hls0 : ∀ l ∈ lists ws, ∀ p ∈ l, 0 ≤ p := fun l hl p hp => (hls l hl p hp).1
  have good : ∀ g, Pre (lists ws) (-1) (lists ws).length g ↔ Good P (lists ws) g := fun g => by
    have := pre_good (wo := -1) (g := g) hls (by omega : (0 : Int) ≤ P)
    rwa [drp_none] at this
  intro d
  induction d with
  | zero =>
    intro i k H b now hdi hi hk hc hnl hpre hbg
    have him : i = ws.length := by omega
    subst him
    refine acallsR hmix Try.func81 (by kernel_rfl) t81 _ 6 rfl (by decide) ?_
    obtain ⟨y, hy, hyb⟩ := hc.hb
    have l1 := ld_one hc.hn
    have l2 := ld_one hy
    obtain ⟨l3, _⟩ := ld_two hc.hw
    have hnl' : (now.length : Int) = ws.length := by omega
    have hnow : now.take ws.length = now := List.take_of_length_le (by omega)
    rw [hnow] at hpre ⊢
    rw [← hwl] at hpre
    have hgn := (good now).1 hpre
    have hend : ∀ g, Ext (lists ws) (ws.length) k now g ↔ g = now := fun g => by
      have := Ext_end (k := k) (g := g) hpre
      rwa [hwl] at this
    have hlen1 : lenA (.sl 1 N.o 0 now.length false) = some (I now.length) := rfl
    have hL := (hc.ol hd).ls
    -- the giving that is tried becomes the best one
    have take : ∀ {H1 : AHeap} {b1 : Option (List Int)}, H <+: H1 → HC P v A H1 N b1 now → HC P v A ((H1 ++ [AObj.cells true (now.flatMap e1)]).set N.b (AObj.cells true [.sl 1 H1.length 0 now.length false])) N (some now) now := by
      intro H1 b1 hp h1
      have hm := h1.mono (pre_app H1 [AObj.cells true (now.flatMap e1)])
      have ho := (List.getElem?_eq_some_iff.1 h1.ho).1
      obtain ⟨y1, hy1, _⟩ := h1.hb
      have hbl := (List.getElem?_eq_some_iff.1 hy1).1
      exact hm.best hd (get_new _ _) (by omega) (by omega) h1.pre.length_le
    rcases hyb with ⟨rfl, rfl⟩ | ⟨g, kk, rfl, rfl, g1, g2, g3, g4⟩
    · have ht := take (List.prefix_refl H) hc
      have hm := hc.mono (pre_app H [AObj.cells true (now.flatMap e1)])
      obtain ⟨y1, hy1, _⟩ := hm.hb
      have hst := st_one (y := .sl 1 H.length 0 now.length false) hy1 rfl
      dsimp only [m81]
      simp (maxSteps := 4000000) -implicitDefEqProofs -dsimp (disch := omega) only [↓AW_ops, ↓AW_seq, ↓AW_cond, ↓AOps_nil, ↓AOps_pu, ↓AOps_ld, ↓AOps_call, ↓AOps_guard, on_some, guardB_tf, skipS_some, condB_t, ↓then_normal, pval, lval, rd_S, rd_C, put_S, eq_self, List.replicate_succ, List.replicate_zero, List.set_cons_zero, List.set_cons_succ, List.getElem?_cons_zero, List.getElem?_cons_succ, Option.getD_some, map_c, map_n, Nat.reduceSub, List.cons_append, List.nil_append, bin_eql, if_true, Bool.not_false, decide_true, l1, l2, hlen1, hnl']
      refine CallK.of (s83 hL (by simp) (by omega)) ?_
      simp (maxSteps := 4000000) -implicitDefEqProofs -dsimp (disch := omega) only [↓AW_ret, ↓AOps_nil, ↓AOps_ha, on_some, extK_false, extK_app, skipS_some, ↓then_normal, ↓then_ret, ↓FinR_ret, hval_st, rd_S, put_S, resV, resL, List.replicate_succ, List.replicate_zero, List.set_cons_zero, List.set_cons_succ, List.getElem?_cons_zero, List.getElem?_cons_succ, Option.getD_some, Option.map_some, Nat.reduceSub, List.cons_append, List.nil_append, hst]
      exact ⟨_, _, gc_all, rfl, some now, now, ht, hnl, hnow, fun g hg => by cases hg; exact hgn, (UpB.one_none now).congr hend⟩
    · have hgg := hbg g rfl
      have hE1 : gE P (lists ws) now = 0 := good_iff.2 ⟨h0, hgn⟩
      have hE2 : gE P (lists ws) g = 0 := good_iff.2 ⟨h0, hgg⟩
      have hwH := hw.mono hc.pre
      have c1 := s72 (P := P) (A := H) hwH hs hL hE1
      have p1 := pre_out H ((cnt P (now.zip (lists ws))).flatMap e1) (cnt P (now.zip (lists ws))).length
      have q1 := Ls_out H e1_len (cnt P (now.zip (lists ws)))
      generalize outV 1 H (cnt P (now.zip (lists ws))).length = v1 at *
      generalize outH H ((cnt P (now.zip (lists ws))).flatMap e1) (cnt P (now.zip (lists ws))).length = H1 at *
      have hc1 := hc.mono p1
      have hLg : L1 H (.sl 1 kk 0 g.length false) g := (OL.mk e1_len hc.pre g4 g1 ⟨false, rfl⟩ : OL 1 e1 A H kk (.sl 1 kk 0 g.length false) g).ls
      have c2 := s72 (P := P) (A := H1) (hwH.mono p1) hs (hLg.mono p1) hE2
      have p2 := pre_out H1 ((cnt P (g.zip (lists ws))).flatMap e1) (cnt P (g.zip (lists ws))).length
      have q2 := Ls_out H1 e1_len (cnt P (g.zip (lists ws)))
      generalize outV 1 H1 (cnt P (g.zip (lists ws))).length = v2 at *
      generalize outH H1 ((cnt P (g.zip (lists ws))).flatMap e1) (cnt P (g.zip (lists ws))).length = H2 at *
      have hc2 := hc1.mono p2
      obtain ⟨l3', _⟩ := ld_two hc1.hw
      have l2' : ldA 1 false (.ptr N.b 0) H1 = some (.sl 1 kk 0 g.length false) := ld_one (pre_get p1 hy)
      have l1' := ld_one hc2.hn
      have c3 := c_Compare (q1.mono p2) q2 (by rw [cnt_len]; omega) (by rw [cnt_len, cnt_len])
      have hpos := cmpL_pos (cnt P (now.zip (lists ws))) (cnt P (g.zip (lists ws)))
      dsimp only [m81]
      simp (maxSteps := 4000000) -implicitDefEqProofs -dsimp (disch := omega) only [↓AW_ops, ↓AW_seq, ↓AW_cond, ↓AOps_nil, ↓AOps_pu, ↓AOps_ld, ↓AOps_call, ↓AOps_guard, on_some, guardB_ff, condB_t, ↓then_normal, pval, lval, rd_S, put_S, eq_self, List.replicate_succ, List.replicate_zero, List.set_cons_zero, List.set_cons_succ, List.getElem?_cons_zero, List.getElem?_cons_succ, Option.getD_some, map_c, map_n, Nat.reduceSub, List.cons_append, List.nil_append, bin_eql, decide_true, l1, l2, l3, hlen1, hnl']
      refine CallK.of c1 ?_
      simp (maxSteps := 4000000) -implicitDefEqProofs -dsimp (disch := omega) only [↓AOps_ld, ↓AOps_call, ↓AOps_guard, on_some, guardB_ff, lval, rd_S, put_S, List.replicate_succ, List.replicate_zero, List.set_cons_zero, List.set_cons_succ, List.getElem?_cons_zero, List.getElem?_cons_succ, Option.getD_some, map_c, map_n, Nat.reduceSub, List.cons_append, List.nil_append, extK_of p1, l3', l2']
      refine CallK.of c2 ?_
      simp (maxSteps := 4000000) -implicitDefEqProofs -dsimp (disch := omega) only [↓AOps_call, ↓AOps_guard, extK_false, guardB_ff, rd_S, put_S, List.replicate_succ, List.replicate_zero, List.set_cons_zero, List.set_cons_succ, List.getElem?_cons_zero, List.getElem?_cons_succ, Option.getD_some, map_c, map_n, Nat.reduceSub, List.cons_append, List.nil_append]
      refine CallK.of c3 ?_
      by_cases hg0 : 0 < cmpL (cnt P (now.zip (lists ws))) (cnt P (g.zip (lists ws)))
      · have ht := take (p1.trans p2) hc2
        have hm := hc2.mono (pre_app H2 [AObj.cells true (now.flatMap e1)])
        obtain ⟨y1, hy1, _⟩ := hm.hb
        have hst := st_one (y := .sl 1 H2.length 0 now.length false) hy1 rfl
        simp (maxSteps := 4000000) -implicitDefEqProofs -dsimp (disch := omega) only [↓AW_ops, ↓AW_cond, ↓AOps_nil, ↓AOps_pu, ↓AOps_ld, ↓AOps_call, ↓AOps_guard, on_some, extK_same, guardB_ff, condB_t, ↓then_normal, pval, lval, rd_S, rd_C, put_S, List.replicate_succ, List.replicate_zero, List.set_cons_zero, List.set_cons_succ, List.getElem?_cons_zero, List.getElem?_cons_succ, Option.getD_some, map_c, map_n, Nat.reduceSub, List.cons_append, List.nil_append, bin_gtr, if_false, Bool.false_eq_true, decide_true, hg0, l1']
        refine CallK.of (s83 (hL.mono (p1.trans p2)) (by simp) (by omega)) ?_
        simp (maxSteps := 4000000) -implicitDefEqProofs -dsimp (disch := omega) only [↓AW_ret, ↓AOps_nil, ↓AOps_ha, on_some, extK_false, extK_app, ↓then_normal, ↓then_ret, ↓FinR_ret, hval_st, rd_S, put_S, resV, resL, List.replicate_succ, List.replicate_zero, List.set_cons_zero, List.set_cons_succ, List.getElem?_cons_zero, List.getElem?_cons_succ, Option.getD_some, Option.map_some, Nat.reduceSub, List.cons_append, List.nil_append, hst]
        exact ⟨_, _, gc_all, rfl, some now, now, ht, hnl, hnow, fun g hg => by cases hg; exact hgn, (UpB.one_yes (hpos.1 hg0)).congr hend⟩
      · simp (maxSteps := 4000000) -implicitDefEqProofs -dsimp (disch := omega) only [↓AW_skip, ↓AW_cond, ↓AW_ret, ↓AOps_nil, ↓AOps_pu, ↓AOps_guard, on_some, extK_same, guardB_ff, condB_f, ↓then_normal, ↓then_ret, ↓FinR_ret, pval, rd_S, rd_C, put_S, resV, resL, List.replicate_succ, List.replicate_zero, List.set_cons_zero, List.set_cons_succ, List.getElem?_cons_zero, List.getElem?_cons_succ, Option.getD_some, Nat.reduceSub, List.cons_append, List.nil_append, bin_gtr, if_false, Bool.false_eq_true, decide_false, hg0]
        have hle : leL (cnt P (now.zip (lists ws))) (cnt P (g.zip (lists ws))) = true := by
          cases h : leL (cnt P (now.zip (lists ws))) (cnt P (g.zip (lists ws))) with
          | true => rfl
          | false => exact absurd (hpos.2 h) hg0
        exact ⟨_, _, gc_all, rfl, some g, now, hc2, hnl, hnow, hbg, (UpB.one_no hle).congr hend⟩
  | succ d ih =>
    intro i k H b now hdi hi hk hc hnl hpre hbg
    have hiw : i < ws.length := by omega
    have hin : i < now.length := by omega
    refine acallsR hmix Try.func81 (by kernel_rfl) t81 _ 6 rfl (by decide) ?_
    have l1 := ld_one hc.hn
    obtain ⟨_, l3⟩ := ld_two hc.hw
    have hne : ¬ (i : Int) = now.length := by omega
    have hlen1 : ∀ m, lenA (.sl 1 N.o 0 m false) = some (I m) := fun m => rfl
    have hwH := hw.mono hc.pre
    obtain ⟨x, hx⟩ : ∃ x, ws[i]? = some x := ⟨_, List.getElem?_eq_getElem hiw⟩
    have hm := List.mem_of_getElem? hx
    have hlx := lst_at hx
    have hxA := hw.inn x hm
    have hxH := hxA.mono hc.pre
    have hx40 := hs.2 x hm
    have hprel : (now.take i).length = i := by rw [List.length_take]; omega
    have hi2 : i < (lists ws).length := by omega
    dsimp only [m81]
    simp (maxSteps := 4000000) -implicitDefEqProofs -dsimp (disch := omega) only [↓AW_skip, ↓AW_ops, ↓AW_seq, ↓AW_cond, ↓AW_block, ↓AOps_nil, ↓AOps_pu, ↓AOps_ld, on_some, condB_f, ↓then_normal, pval, lval, rd_S, rd_C, put_S, ↓AW_toLoop, partA, eq_self, List.replicate_succ, List.replicate_zero, List.set_cons_zero, List.set_cons_succ, List.getElem?_cons_zero, List.getElem?_cons_succ, List.drop_zero, List.take_succ_cons, List.take_nil, Option.getD_some, List.length_cons, List.length_nil, Nat.reduceSub, Nat.reduceLeDiff, Nat.zero_add, List.cons_append, List.nil_append, bin_eql, if_true, if_false, Bool.false_eq_true, decide_false, l1, l3, hlen1, hne, hwH.ls.idx hiw, hwH.ls.ld0 hx 1 false (by decide), e0, hxH.len]
    refine LoopK.by 65 (fun z : Nat × AHeap × Option (List Int) × List Int => z.1 ≤ x.2.length ∧ HC P v A z.2.1 N z.2.2.1 z.2.2.2 ∧ z.2.2.2.length = ws.length ∧ z.2.2.2.take i = now.take i ∧ (∀ g, z.2.2.1 = some g → Good P (lists ws) g) ∧ UpB P (lists ws) b (LS (lists ws) i k (now.take i) z.1) z.2.2.1)
      (fun z => [(0, I i), (1, I k), (2, .ptr N.n 0), (5, .ptr N.t 0), (32, x.1), (33, I x.2.length), (34, I z.1)]) (fun z => z.2.1) (fun z => x.2.length - z.1) (0, H, b, now) ⟨by simp only; omega, hc, hnl, rfl, hbg, UpB.refl (LS_0 (ls := lists ws))⟩ rfl (by simp [Has, rd_s]) rfl ?_
    rintro ⟨j, H1, b1, now1⟩ ⟨hj, hc1, hnl1, ht1, hbg1, hup1⟩
    simp only at hj hc1 hnl1 ht1 hbg1 hup1
    have hx1 := hxA.mono hc1.pre
    have l11 := ld_one hc1.hn
    have ho1 := hc1.ol hd
    have hin1 : i < now1.length := by omega
    by_cases hlt : j < x.2.length
    · obtain ⟨p, hp⟩ : ∃ p, x.2[j]? = some p := ⟨_, List.getElem?_eq_getElem hlt⟩
      have hlt' : (j : Int) < x.2.length := by omega
      have hpm := List.mem_of_getElem? hp
      have hp0 := hls x.2 (List.mem_map.2 ⟨x, hm, rfl⟩) p hpm
      obtain ⟨vt, hsl, hLt⟩ := Ls_takeS ho1.ls i (by omega)
      have hLS := LS_succ (ls := lists ws) (i := i) (k := k) (pre := now.take i) (j := j) (p := p) (by rw [hlx]; exact hp)
      simp (maxSteps := 4000000) -implicitDefEqProofs -dsimp (disch := omega) only [↓AW_skip, ↓AW_ops, ↓AW_seq, ↓AW_cond, ↓AW_block, ↓AOps_nil, ↓AOps_pu, ↓AOps_ld, ↓AOps_call, on_some, condB_t, ↓then_normal, pval, lval, rd_S, put_S, partA, eq_self, mk, List.foldl_cons, List.foldl_nil, List.replicate_succ, List.replicate_zero, List.set_cons_zero, List.set_cons_succ, List.getElem?_cons_zero, List.getElem?_cons_succ, List.drop_zero, List.take_succ_cons, List.take_nil, Option.getD_some, Option.map_some, Option.map_none, map_c, map_n, List.length_cons, List.length_nil, Nat.reduceLeDiff, Nat.zero_add, bin_lss, if_true, if_false, Bool.false_eq_true, decide_true, Go.Eng.e1, hlt', hx1.idx hlt, hx1.ld0 hp 1 false (by decide), l11, hsl]
      refine CallK.of (c_Contains hLt (by rw [List.length_take]; omega) p) ?_
      rw [ht1]
      by_cases hpp : p ∈ now.take i
      · simp (maxSteps := 4000000) -implicitDefEqProofs -dsimp (disch := omega) only [↓AW_skip, ↓AW_ops, ↓AW_cond, ↓AOps_nil, ↓AOps_pu, on_some, extK_same, condB_f, ↓then_normal, ↓inBlock_normal, pval, rd_S, rd_C, put_S, eq_self, mk, List.foldl_cons, List.foldl_nil, List.replicate_succ, List.replicate_zero, List.set_cons_zero, List.set_cons_succ, List.getElem?_cons_zero, List.getElem?_cons_succ, Option.getD_some, List.length_cons, List.length_nil, Nat.reduceAdd, Nat.zero_add, bin_add, w64, Bool.not_true, decide_true, true_and, hpp]
        exact ⟨(j + 1, H1, b1, now1), ⟨hlt, hc1, hnl1, ht1, hbg1, hup1.congr (fun g => by rw [hLS g]; simp [hpp])⟩, by simp [Has, rd_s], rfl, by simp only; omega⟩
      · have hst := ho1.st hin1 (I p) p rfl
        have hix := ho1.ls.idx (k := .i64) hin1
        have hc2 := hc1.put hd i p
        have l4 := ld_one hc2.ht
        have ht2 : (now1.set i p).take (i + 1) = now.take i ++ [p] := by rw [set_take hin1, ht1]
        have hpre2 : Pre (lists ws) (-1) (i + 1) ((now1.set i p).take (i + 1)) := by
          rw [ht2]
          exact pre_ext hpre (.inr ⟨hp0.1, by rw [hlx]; exact hpm, hpp⟩)
        obtain ⟨r3, H3, c3, rfl, b3, now3, hc3, hnl3, ht3, hbg3, hup3⟩ := ih (i + 1) k _ b1 (now1.set i p) (by omega) (by omega) hk hc2 (by rw [List.length_set]; exact hnl1) hpre2 hbg1
        rw [show ((i + 1 : Nat) : Int) = (i : Int) + 1 by omega] at c3
        rw [ht2] at ht3 hup3
        simp (maxSteps := 4000000) -implicitDefEqProofs -dsimp (disch := omega) only [↓AW_ops, ↓AW_seq, ↓AW_cond, ↓AOps_nil, ↓AOps_pu, ↓AOps_ld, ↓AOps_ha, ↓AOps_callv, on_some, extK_false, extK_same, CallF_fn, condB_t, ↓then_normal, pval, lval, hval_st, rd_S, rd_C, put_S, putS_none, mk, List.foldl_cons, List.foldl_nil, List.replicate_succ, List.replicate_zero, List.set_cons_zero, List.set_cons_succ, List.getElem?_cons_zero, List.getElem?_cons_succ, Option.getD_some, Option.map_some, map_c, map_n, List.cons_append, List.nil_append, bin_add, w64, Bool.not_false, decide_false, hpp, l11, hix, hst, l4]
        refine CallK.of c3 ?_
        simp (maxSteps := 4000000) -implicitDefEqProofs -dsimp (disch := omega) only [↓AW_ops, ↓AOps_nil, ↓AOps_pu, on_some, extK_false, ↓then_normal, ↓inBlock_normal, pval, rd_S, rd_C, put_S, putS_none, eq_self, mk, List.foldl_cons, List.foldl_nil, List.replicate_succ, List.replicate_zero, List.set_cons_zero, List.set_cons_succ, List.getElem?_cons_zero, List.getElem?_cons_succ, Option.getD_some, List.length_cons, List.length_nil, Nat.reduceAdd, Nat.zero_add, bin_add, w64, true_and]
        refine ⟨(j + 1, H3, b3, now3), ⟨hlt, hc3, hnl3, take_take1 ht3 hin, hbg3, ?_⟩, by simp [Has, rd_s], rfl, by simp only; omega⟩
        refine hup1.trans hup3 (fun g => ?_)
        rw [hLS g]
        simp [hpp]
    · have hlt' : ¬ (j : Int) < x.2.length := by omega
      have hst := ho1.st hin1 (I (-1)) (-1) rfl
      have hix := ho1.ls.idx (k := .i64) hin1
      have hc2 := hc1.put hd i (-1)
      have l4 := ld_one hc2.ht
      have ht2 : (now1.set i (-1)).take (i + 1) = now.take i ++ [-1] := by rw [set_take hin1, ht1]
      have hall := LS_all (k := k) hi2 hls0 hprel (j := j) (by rw [hlx]; omega)
      by_cases hk0 : 0 < k
      · have hk0' : (0 : Int) < k := by omega
        have hpre2 : Pre (lists ws) (-1) (i + 1) ((now1.set i (-1)).take (i + 1)) := by
          rw [ht2]
          exact pre_ext hpre (.inl rfl)
        obtain ⟨r3, H3, c3, rfl, b3, now3, hc3, hnl3, ht3, hbg3, hup3⟩ := ih (i + 1) (k - 1) _ b1 (now1.set i (-1)) (by omega) (by omega) (by omega) hc2 (by rw [List.length_set]; exact hnl1) hpre2 hbg1
        rw [show ((i + 1 : Nat) : Int) = (i : Int) + 1 by omega, show ((k - 1 : Nat) : Int) = (k : Int) - 1 by omega] at c3
        rw [ht2] at ht3 hup3
        simp (maxSteps := 4000000) -implicitDefEqProofs -dsimp (disch := omega) only [↓AW_ops, ↓AW_seq, ↓AW_cond, ↓AW_exit, ↓AOps_nil, ↓AOps_pu, ↓AOps_ld, ↓AOps_ha, ↓AOps_callv, on_some, extK_false, CallF_fn, condB_t, condB_f, ↓then_normal, ↓then_exit, ↓inBlock_exit, pval, lval, hval_st, rd_S, rd_C, put_S, putS_none, eq_self, mk, List.foldl_cons, List.foldl_nil, List.replicate_succ, List.replicate_zero, List.set_cons_zero, List.set_cons_succ, List.getElem?_cons_zero, List.getElem?_cons_succ, Option.getD_some, Option.map_some, map_c, map_n, List.cons_append, List.nil_append, bin_add, bin_sub, bin_lss, bin_gtr, w64, if_true, decide_true, decide_false, Int.reduceNeg, hlt', l11, hix, hst, hk0', l4]
        refine CallK.of c3 ?_
        simp (maxSteps := 4000000) -implicitDefEqProofs -dsimp (disch := omega) only [↓AOps_nil, on_some, extK_false, ↓FinR_normal, resV, resL, Int.reduceNeg]
        refine ⟨_, _, gc_all, rfl, b3, now3, hc3, hnl3, take_take1 ht3 hin, hbg3, ?_⟩
        refine hup1.trans hup3 (fun g => ?_)
        rw [hall g]
        simp [hk0]
      · have hk0' : ¬ (0 : Int) < k := by omega
        simp (maxSteps := 4000000) -implicitDefEqProofs -dsimp (disch := omega) only [↓AW_skip, ↓AW_ops, ↓AW_seq, ↓AW_cond, ↓AW_exit, ↓AOps_nil, ↓AOps_pu, ↓AOps_ld, ↓AOps_ha, on_some, extK_false, condB_f, ↓then_normal, ↓then_exit, ↓inBlock_exit, ↓FinR_normal, pval, lval, hval_st, rd_S, rd_C, put_S, putS_none, resV, resL, eq_self, mk, List.foldl_cons, List.foldl_nil, List.replicate_succ, List.replicate_zero, List.set_cons_zero, List.set_cons_succ, List.getElem?_cons_zero, List.getElem?_cons_succ, Option.getD_some, Option.map_some, bin_lss, bin_gtr, if_true, decide_false, Int.reduceNeg, hlt', l11, hix, hst, hk0']
        refine ⟨_, _, gc_all, rfl, b1, _, hc2, by rw [List.length_set]; exact hnl1, take_take1 ht2 hin, hbg1, ?_⟩
        refine hup1.congr (fun g => ?_)
        rw [hall g]
        simp [hk0]
end Go.Proofs.Ytlmbobbefgcolaa

namespace Go.Proofs.Ytlmbobbefgcolaa
open Go Go.Eng
theorem st_nw1 {H : AHeap} {x y : AV} (hy : y.cells? = some [y]) : stA 1 (.ptr H.length 0) y (H ++ [.cells true [x]]) = some (H ++ [.cells true [y]]) := by
  rw [st_one (get_new H (AObj.cells true [x])) hy]
  simp
/-- A list, or the error of the wishes. -/
def OutR (P : Int) (ls : List (List Int)) (Q : List Int → Prop) (A : AHeap) (r : AV) (H' : AHeap) : Prop :=
  (vW P ls ≠ 0 → r = .tuple [.nilS, I (vW P ls)] ∧ A <+: H') ∧ (vW P ls = 0 → ∃ y g, r = .tuple [y, I 0] ∧ A <+: H' ∧ L1 H' y g ∧ Q g)
set_option maxRecDepth 20000 in
set_option maxHeartbeats 4000000 in
theorem s48 {P : Int} {ws : List (AV × List Int)} {v : AV} {A : AHeap} (hw : LL A v ws) (hs : Sz ws) :
    ∃ r H', ACalls Try.prog 48 [.agg [I P, v]] A r H' ∧ OutR P (lists ws) (fun g => Good P (lists ws) g ∧ srv g = most P (lists ws) ∧ IsBest P (lists ws) (ct P (lists ws) g)) A r H' := by
  refine acallsR hmix Try.func48 (by kernel_rfl) t48 _ 1 rfl (by decide) ?_
  obtain ⟨l0, _⟩ := ld_two (H := A ++ [AObj.cells true [I P, v]]) (get_new A (AObj.cells true [I P, v]))
  have p1 := pre_app A [AObj.cells true [I P, v]]
  have g1 := get_new A (AObj.cells true [I P, v])
  have hw1 := hw.mono p1
  dsimp only [m48]
  simp (maxSteps := 4000000) -implicitDefEqProofs -dsimp (disch := omega) only [↓AW_ops, ↓AW_seq, ↓AOps_nil, ↓AOps_pu, ↓AOps_ld, ↓AOps_ha, ↓AOps_call, on_some, extK_app, ↓then_normal, pval, lval, hval_newv, rd_S, rd_C, put_S, cells_agg, List.replicate_succ, List.replicate_zero, List.set_cons_zero, List.set_cons_succ, List.getElem?_cons_zero, List.getElem?_cons_succ, Option.getD_some, map_c, map_n, Nat.reduceSub, List.cons_append, List.nil_append, l0]
  generalize hH1 : A ++ [AObj.cells true [I P, v]] = H1 at *
  refine CallK.of (s39 hw1 hs) ?_
  by_cases h0 : vW P (lists ws) = 0
  case neg =>
    simp (maxSteps := 4000000) -implicitDefEqProofs -dsimp (disch := omega) only [↓AW_ops, ↓AW_seq, ↓AW_cond, ↓AW_ret, ↓AOps_nil, ↓AOps_pu, on_some, extK_same, condB_t, ↓then_normal, ↓then_ret, ↓FinR_ret, pval, rd_S, rd_C, put_S, resV, resL, List.replicate_succ, List.replicate_zero, List.set_cons_zero, List.set_cons_succ, List.getElem?_cons_zero, List.getElem?_cons_succ, Option.getD_some, Nat.reduceSub, List.cons_append, List.nil_append, bin_neq, decide_true, not_false_eq_true, h0]
    exact ⟨_, _, gc_all, fun _ => ⟨rfl, p1⟩, fun h => absurd h h0⟩
  have hv := val_of h0
  have hn7 : ws.length ≤ 7 := by simpa using hv.n
  simp (maxSteps := 4000000) -implicitDefEqProofs -dsimp (disch := omega) only [↓AW_skip, ↓AW_ops, ↓AW_seq, ↓AW_cond, ↓AOps_nil, ↓AOps_pu, ↓AOps_ld, ↓AOps_call, on_some, extK_same, condB_f, ↓then_normal, pval, lval, rd_S, rd_C, put_S, eq_self, List.replicate_succ, List.replicate_zero, List.set_cons_zero, List.set_cons_succ, List.getElem?_cons_zero, List.getElem?_cons_succ, Option.getD_some, map_c, map_n, Nat.reduceSub, List.cons_append, List.nil_append, bin_neq, decide_false, not_true_eq_false, h0, l0]
  refine CallK.of (s56 hv hw1) ?_
  have p2 := pre_app H1 [AObj.cells true [AV.nilS]]
  have g2 := get_new H1 (AObj.cells true [AV.nilS])
  have hw2 := hw1.mono p2
  have l2 := (ld_two (pre_get p2 g1)).1
  have n2 : H1.length < (H1 ++ [AObj.cells true [AV.nilS]]).length := by simp
  simp (maxSteps := 4000000) -implicitDefEqProofs -dsimp (disch := omega) only [↓AW_ops, ↓AW_seq, ↓AOps_nil, ↓AOps_pu, ↓AOps_ld, ↓AOps_ha, ↓AOps_call, on_some, extK_app, extK_same, ↓then_normal, pval, lval, hval_newv, rd_S, rd_C, put_S, cells_nilS, List.replicate_succ, List.replicate_zero, List.set_cons_zero, List.set_cons_succ, List.getElem?_cons_zero, List.getElem?_cons_succ, Option.getD_some, map_c, map_n, Nat.reduceSub, List.cons_append, List.nil_append, l2]
  generalize hH2 : H1 ++ [AObj.cells true [AV.nilS]] = H2 at *
  refine CallK.of (s63 hw2 (by omega)) ?_
  have p3 := pre_app H2 [AObj.cells true ((noG ws).flatMap Go.Eng.e1)]
  have g3 := get_new H2 (AObj.cells true ((noG ws).flatMap Go.Eng.e1))
  have n3 : H2.length < (H2 ++ [AObj.cells true ((noG ws).flatMap Go.Eng.e1)]).length := by simp
  generalize hH3 : H2 ++ [AObj.cells true ((noG ws).flatMap Go.Eng.e1)] = H3 at *
  have s3 := st_nw1 (H := H3) (x := AV.nilS) (y := .sl 1 H2.length 0 ws.length false) rfl
  have p4 := pre_app H3 [AObj.cells true [AV.sl 1 H2.length 0 ws.length false]]
  have g4 := get_new H3 (AObj.cells true [AV.sl 1 H2.length 0 ws.length false])
  have n4 : H3.length < (H3 ++ [AObj.cells true [AV.sl 1 H2.length 0 ws.length false]]).length := by simp
  simp (maxSteps := 4000000) -implicitDefEqProofs -dsimp (disch := omega) only [↓AW_ops, ↓AW_seq, ↓AOps_nil, ↓AOps_pu, ↓AOps_ha, on_some, extK_false, extK_app, ↓then_normal, pval, hval_st, hval_newv, rd_S, rd_C, put_S, putS_none, cells_nilS, cells_nilF, partA, eq_self, List.replicate_succ, List.replicate_zero, List.set_cons_zero, List.set_cons_succ, List.getElem?_cons_zero, List.getElem?_cons_succ, List.drop_zero, List.drop_succ_cons, List.take_succ_cons, List.take_nil, Option.getD_some, Option.map_some, map_c, map_n, List.length_cons, List.length_nil, Nat.reduceAdd, Nat.reduceSub, Nat.reduceLeDiff, Nat.zero_add, List.cons_append, List.nil_append, if_true, if_false, Bool.false_eq_true, partA, s3]
  generalize hH4 : H3 ++ [AObj.cells true [AV.sl 1 H2.length 0 ws.length false]] = H4 at *
  have s4 := st_nw1 (H := H4) (x := AV.nilF) (y := .fn 81 [.ptr H3.length 0, .ptr H1.length 0, .ptr A.length 0, .ptr H4.length 0]) rfl
  have p5 := pre_app H4 [AObj.cells true [AV.fn 81 [.ptr H3.length 0, .ptr H1.length 0, .ptr A.length 0, .ptr H4.length 0]]]
  have g5 := get_new H4 (AObj.cells true [AV.fn 81 [.ptr H3.length 0, .ptr H1.length 0, .ptr A.length 0, .ptr H4.length 0]])
  simp (maxSteps := 4000000) -implicitDefEqProofs -dsimp (disch := omega) only [↓AW_ops, ↓AW_seq, ↓AOps_nil, ↓AOps_ld, on_some, extK_false, ↓then_normal, lval, rd_S, put_S, putS_none, List.replicate_succ, List.replicate_zero, List.set_cons_zero, List.set_cons_succ, List.getElem?_cons_zero, List.getElem?_cons_succ, Option.getD_some, Option.map_some, Nat.reduceSub, List.cons_append, List.nil_append, s4]
  generalize hH5 : H4 ++ [AObj.cells true [AV.fn 81 [.ptr H3.length 0, .ptr H1.length 0, .ptr A.length 0, .ptr H4.length 0]]] = H5 at *
  have l5 := ld_one g5
  have l4 := ld_one (pre_get p5 g4)
  have n1 : A.length < H1.length := by rw [← hH1]; simp
  have hd : HD A ⟨A.length, H1.length, H3.length, H4.length, H2.length⟩ := by
    constructor <;> simp only [] <;> omega
  have hgl : (noG ws).length = ws.length := by simp [noG]
  have hc : HC P v A H5 ⟨A.length, H1.length, H3.length, H4.length, H2.length⟩ none (noG ws) :=
    ⟨p1.trans (p2.trans (p3.trans (p4.trans p5))), pre_get (p2.trans (p3.trans (p4.trans p5))) g1, g5, by rw [hgl]; exact pre_get p5 g4, pre_get (p4.trans p5) g3, .nilS, pre_get (p3.trans (p4.trans p5)) g2, .inl ⟨rfl, rfl⟩⟩
  have hmn : most P (lists ws) ≤ ws.length := by
    have h1 := best_most P ws
    have h2 := neg_srv (best P ws)
    rw [best_len hv] at h2
    omega
  have hpre : Pre (lists ws) (-1) 0 ((noG ws).take 0) := by
    rw [List.take_zero]
    exact ⟨rfl, fun k h => by omega, fun k h => by omega, fun a b h => by omega⟩
  obtain ⟨r, H6, c6, rfl, b6, now6, hc6, hnl6, _, hb6, hup⟩ := s81 hd h0 hw hs ws.length 0 (ws.length - most P (lists ws)) H5 none (noG ws) rfl (by omega) (by omega) hc hgl hpre (fun g hg => by cases hg)
  rw [List.take_zero] at hup
  rw [show ((0 : Nat) : Int) = 0 from rfl, show ((ws.length - most P (lists ws) : Nat) : Int) = (ws.length : Int) - most P (lists ws) by omega] at c6
  have hlen : lenA (.sl 1 H2.length 0 ws.length false) = some (I ws.length) := rfl
  simp (maxSteps := 4000000) -implicitDefEqProofs -dsimp (disch := omega) only [↓AOps_pu, ↓AOps_ld, ↓AOps_callv, on_some, CallF_fn, pval, lval, rd_S, rd_C, put_S, putS_none, List.replicate_succ, List.replicate_zero, List.set_cons_zero, List.set_cons_succ, List.getElem?_cons_zero, List.getElem?_cons_succ, Option.getD_some, map_c, map_n, Nat.reduceSub, List.cons_append, List.nil_append, bin_sub, w64, l5, l4, hlen]
  refine CallK.of c6 ?_
  have hwl : (lists ws).length = ws.length := by simp
  rw [← hwl] at hup
  obtain ⟨g, hg, hG, hsr, hbst⟩ := up_best hv hup
  subst hg
  obtain ⟨y, hy, hy2⟩ := hc6.hb
  have l6 := ld_one hy
  simp (maxSteps := 4000000) -implicitDefEqProofs -dsimp (disch := omega) only [↓AW_ops, ↓AW_seq, ↓AW_ret, ↓AOps_nil, ↓AOps_pu, ↓AOps_ld, on_some, extK_false, ↓then_normal, ↓FinR_ret, pval, lval, rd_S, rd_C, put_S, putS_none, resV, resL, List.replicate_succ, List.replicate_zero, List.set_cons_zero, List.set_cons_succ, List.getElem?_cons_zero, List.getElem?_cons_succ, Option.getD_some, Nat.reduceSub, List.cons_append, List.nil_append, l6]
  refine ⟨_, _, gc_all, fun h => absurd h0 h, fun _ => ⟨y, g, rfl, hc6.pre, ?_, hG, hsr, hbst⟩⟩
  rcases hy2 with ⟨h, _⟩ | ⟨g', k, h1, h2, h3, h4, h5, h6⟩
  · cases h
  · cases h1
    rw [h2]
    exact (OL.mk e1_len hc6.pre h6 h3 ⟨false, rfl⟩ : OL 1 Go.Eng.e1 A H6 k (.sl 1 k 0 g.length false) g).ls
end Go.Proofs.Ytlmbobbefgcolaa

namespace Go.Proofs.Ytlmbobbefgcolaa
open Go Go.Eng
/-- A list of lists, told by a function. -/
structure TbL (N : Nat) (ws : List (AV × List Int)) (T : Nat → List Int) : Prop where
  len : ws.length = N
  at_ : ∀ s, s < N → ∃ x, ws[s]? = some x ∧ x.2 = T s
  out : ∀ s, N ≤ s → T s = []
def upd (T : Nat → List Int) (j : Nat) (c : List Int) : Nat → List Int := fun t => if t = j then c else T t
theorem TbL.set {N : Nat} {ws : List (AV × List Int)} {T : Nat → List Int} (h : TbL N ws T) {j : Nat} (hj : j < N) (a : AV) (c : List Int) : TbL N (ws.set j (a, c)) (upd T j c) := by
  refine ⟨by rw [List.length_set]; exact h.len, fun s hs => ?_, fun s hs => ?_⟩
  · by_cases e : s = j
    · subst e
      exact ⟨(a, c), List.getElem?_set_self (by rw [h.len]; exact hj), by simp [upd]⟩
    · obtain ⟨x, h1, h2⟩ := h.at_ s hs
      exact ⟨x, by rw [List.getElem?_set_ne (Ne.symm e)]; exact h1, by rw [h2]; simp [upd, e]⟩
  · have : s ≠ j := by omega
    rw [show upd T j c s = T s by simp [upd, this]]
    exact h.out s hs
/-- A row: an old one, or one that was made behind it. -/
def RW (Bh H : AHeap) (nn : Nat) (x : AV × List Int) : Prop := L1 Bh x.1 x.2 ∨ ∃ k full, x.1 = .sl 1 k 0 x.2.length full ∧ k ≠ nn ∧ H[k]? = some (.cells true (x.2.flatMap Go.Eng.e1))
theorem RW.l1 {Bh H : AHeap} {nn : Nat} {x : AV × List Int} (h : RW Bh H nn x) (hp : Bh <+: H) : L1 H x.1 x.2 := by
  rcases h with h | ⟨k, full, h1, _, h3⟩
  · exact h.mono hp
  · rw [h1]
    exact (OL.mk e1_len (A := []) (List.nil_prefix) (Nat.zero_le _) h3 ⟨full, rfl⟩ : OL 1 Go.Eng.e1 [] H k (.sl 1 k 0 x.2.length full) x.2).ls
theorem RW.mono {Bh H H' : AHeap} {nn : Nat} {x : AV × List Int} (h : RW Bh H nn x) (hp : H <+: H') : RW Bh H' nn x := by
  rcases h with h | ⟨k, full, h1, h2, h3⟩
  · exact .inl h
  · exact .inr ⟨k, full, h1, h2, pre_get hp h3⟩
theorem RW.set {Bh H : AHeap} {nn : Nat} {x : AV × List Int} (h : RW Bh H nn x) (o : AObj) : RW Bh (H.set nn o) nn x := by
  rcases h with h | ⟨k, full, h1, h2, h3⟩
  · exact .inl h
  · exact .inr ⟨k, full, h1, h2, by rw [List.getElem?_set_ne (Ne.symm h2)]; exact h3⟩
theorem TopC.len {S : List Int → Prop} {c : List Int} {n : Nat} (h : TopC S id c) (hn : ∀ x, S x → x.length = n) (h0 : c ≠ []) : c.length = n := by
  rcases h with ⟨h1, _⟩ | ⟨_, ⟨g, hg, hc⟩, _⟩
  · exact absurd h1 h0
  · have hc : g = c := hc
    rw [← hc]; exact hn g hg
end Go.Proofs.Ytlmbobbefgcolaa

namespace Go.Proofs.Ytlmbobbefgcolaa
open Go Go.Eng
end Go.Proofs.Ytlmbobbefgcolaa

namespace Go.Proofs.Ytlmbobbefgcolaa
open Go Go.Eng
end Go.Proofs.Ytlmbobbefgcolaa

namespace Go.Proofs.Ytlmbobbefgcolaa
open Go Go.Eng
/-- Owners as a list tells them. -/
def inS (os : List Int) (k : Nat) : Prop := (k : Int) ∈ os
theorem up_nodup {l : List Int} (h : Up l) : l.Nodup := h.imp (fun h e => by omega)
theorem nums_up (n : Nat) : Up (nums n) := by
  unfold Up nums
  rw [List.pairwise_map]
  exact (List.pairwise_lt_range).imp (fun h => by omega)
theorem filter_isS (n : Nat) (f : Int → Bool) : isS n ((nums n).filter f) := by
  refine ⟨fun p hp => ?_, (nums_up n).filter _⟩
  have := mem_nums.1 (List.mem_filter.1 hp).1
  exact this
theorem wsh_wT {P : Int} {ls : List (List Int)} {os : List Int} (ho : ∀ i ∈ os, inP ls.length i) : wsh ls os P.toNat = wT P ls (inS os) := by
  unfold wsh wT
  refine List.filter_congr (fun p _ => ?_)
  rw [Bool.eq_iff_iff, @decide_eq_true_iff _ (Classical.propDecidable _)]
  unfold wants
  rw [List.any_eq_true]
  constructor
  · rintro ⟨i, hi, h⟩
    have h1 := ho i hi
    have e : ((i.toNat : Nat) : Int) = i := Int.toNat_of_nonneg h1.1
    refine ⟨i.toNat, by have := h1.2; omega, ?_, ?_⟩
    · unfold inS; rw [e]; exact hi
    · rw [e]; simpa using h
  · rintro ⟨i, _, hi, h⟩
    exact ⟨i, hi, by simpa using h⟩
/-- How many of all there are of some kind. -/
noncomputable def cn (n : Nat) (T : Nat → Prop) : Nat := ((List.range n).filter (dec T)).length
theorem filter_two {α : Type} (p q : α → Bool) (l : List α) : (l.filter p).length = (l.filter (fun x => q x && p x)).length + (l.filter (fun x => !q x && p x)).length := by
  induction l with
  | nil => simp
  | cons a l ih =>
    simp only [List.filter_cons]
    cases p a <;> cases q a <;> simp <;> omega
theorem os_cn {n : Nat} {os : List Int} (h : isS n os) : os.length = cn n (inS os) := by
  unfold cn
  have e : os.length = ((nums n).filter (fun p => decide (p ∈ os))).length := by
    have h1 := nodup_len (up_nodup h.2) (m := (nums n).filter (fun p => decide (p ∈ os))) (fun x hx => List.mem_filter.2 ⟨mem_nums.2 (by have := h.1 x hx; exact this), by simpa using hx⟩)
    have h2 := nodup_len (l := (nums n).filter (fun p => decide (p ∈ os))) (m := os) ((nums_nodup n).filter _) (fun x hx => by simpa using (List.mem_filter.1 hx).2)
    omega
  rw [e]
  unfold nums
  rw [List.filter_map, List.length_map]
  congr 1
  refine List.filter_congr (fun k _ => ?_)
  rw [Bool.eq_iff_iff, dec_iff]
  simp [inS]
/-- Nobody lacks more places than the most is below all. -/
theorem lack_le {P : Int} {ls : List (List Int)} {g : List Int} (hg : Good P ls g) {os : List Int} (ho : isS ls.length os) : os.length + srv g ≤ (wsh ls os P.toNat).length + ls.length := by
  rw [wsh_wT ho.1, os_cn ho, srv_sv]
  have h1 : (svT g (inS os)).length ≤ (wT P ls (inS os)).length := by
    have := nodup_len (svT_map_nodup hg (inS os)) (svT_sub hg (inS os))
    simpa using this
  rw [svT_filter hg] at h1
  unfold cn
  have h2 := filter_two (dec (inS os)) (fun k => decide (0 ≤ has g k)) (List.range ls.length)
  have h3 := filter_split (fun k => decide (0 ≤ has g k)) (List.range ls.length)
  rw [List.length_range] at h3
  have h4 : ((List.range ls.length).filter (fun k => !decide (0 ≤ has g k) && dec (inS os) k)).length ≤ ((List.range ls.length).filter (fun k => !decide (0 ≤ has g k))).length := filter_len_mono (fun k _ h => by simp only [Bool.and_eq_true] at h; exact h.1)
  unfold sv
  rw [hg.len]
  omega
/-- The owners one comes to from those who are not served. -/
structure Clo (P : Int) (ls : List (List Int)) (g : List Int) (S : Nat → Prop) : Prop where
  un : ∀ i, i < ls.length → has g i < 0 → S i
  le : ∀ T, Stuck ls g T → (∀ i, i < ls.length → has g i < 0 → T i) → ∀ i, i < ls.length → S i → T i
  cl : ∀ i, i < ls.length → S i → ∀ p ∈ lst ls i, ∀ h, h < ls.length → has g h = p → S h
theorem clo_stuck {P : Int} {ls : List (List Int)} (hls : ∀ l ∈ ls, ∀ p ∈ l, inP P p) {g0 : List Int} (hg0 : Good P ls g0) {S : Nat → Prop} (h : Clo P ls (flF P ls g0) S) : Stuck ls (flF P ls g0) S := by
  obtain ⟨_, _, h3⟩ := fl_inv hls hg0 ls.length (Nat.le_refl _)
  intro i hi hS p hp
  have hT := h.le _ stuck_union (fun i hi hn => by
    obtain ⟨T, t1, t2⟩ := h3 i hi hn
    exact ⟨T, t2, t1⟩) i hi hS
  obtain ⟨k, k1, _, k3⟩ := stuck_union i hi hT p hp
  exact ⟨k, k1, h.cl i hi hS p hp k k1 k3, k3⟩
/-- They lack just as many. -/
theorem clo_lack {P : Int} {ls : List (List Int)} (hls : ∀ l ∈ ls, ∀ p ∈ l, inP P p) {g0 : List Int} (hg0 : Good P ls g0) {os : List Int} (ho : isS ls.length os) (h : Clo P ls (flF P ls g0) (inS os)) : os.length + srv (flF P ls g0) = (wsh ls os P.toNat).length + ls.length := by
  have hg := (fl_max hls hg0).1
  have hs := stuck_len hg (clo_stuck hls hg0 h)
  have hle := lack_le hg ho
  rw [wsh_wT ho.1, os_cn ho] at *
  rw [svT_filter hg] at hs
  rw [srv_sv] at *
  unfold cn at *
  have h2 := filter_two (dec (inS os)) (fun k => decide (0 ≤ has (flF P ls g0) k)) (List.range ls.length)
  have h3 := filter_split (fun k => decide (0 ≤ has (flF P ls g0) k)) (List.range ls.length)
  rw [List.length_range] at h3
  have h4 : (List.range ls.length).filter (fun k => !decide (0 ≤ has (flF P ls g0) k) && dec (inS os) k) = (List.range ls.length).filter (fun k => !decide (0 ≤ has (flF P ls g0) k)) := by
    refine List.filter_congr (fun k hk => ?_)
    have hk := List.mem_range.1 hk
    by_cases hh : 0 ≤ has (flF P ls g0) k
    · simp [hh]
    · have := h.un k hk (by omega)
      simp [hh, dec_iff.2 this]
  rw [h4] at h2
  unfold sv at *
  rw [hg.len] at *
  omega
end Go.Proofs.Ytlmbobbefgcolaa

namespace Go.Proofs.Ytlmbobbefgcolaa
open Go Go.Eng
/-- The first place of a list that nobody has. -/
def fr (g l : List Int) : Int := fpos (fun p => decide (p ∉ g)) l
theorem fr_some {g l : List Int} (h : 0 ≤ fr g l) : ∃ (k : Nat) (p : Int), fr g l = k ∧ k < l.length ∧ l[k]? = some p ∧ p ∉ g ∧ ∀ q ∈ l.take k, q ∈ g := by
  unfold fr fpos at h ⊢
  cases hf : l.findIdx? (fun p => decide (p ∉ g)) with
  | none => rw [hf] at h; simp at h
  | some k =>
    rw [List.findIdx?_eq_some_iff_getElem] at hf
    obtain ⟨h1, h2, h3⟩ := hf
    refine ⟨k, l[k], rfl, h1, List.getElem?_eq_getElem h1, by simpa using h2, fun q hq => ?_⟩
    obtain ⟨j, hj, rfl⟩ := List.mem_iff_getElem.1 hq
    rw [List.length_take] at hj
    have := h3 j (by omega)
    rw [List.getElem_take]
    simpa using this
theorem fr_none {g l : List Int} (h : ¬ 0 ≤ fr g l) : fr g l = -1 ∧ ∀ p ∈ l, p ∈ g := by
  have h1 : ∀ p ∈ l, p ∈ g := by
    intro p hp
    refine Decidable.byContradiction (fun hn => h ?_)
    unfold fr
    rw [fpos_iff, List.any_eq_true]
    exact ⟨p, hp, by simpa using hn⟩
  refine ⟨?_, h1⟩
  unfold fr
  exact fpos_none (fun y hy => by simpa using h1 y hy)
/-- One owner takes the first free place of his list. -/
def lnS (ls : List (List Int)) (g : List Int) (i : Int) : List Int := if 0 ≤ fr g (lst ls i) then g.set i.toNat (((lst ls i)[(fr g (lst ls i)).toNat]?).getD 0) else g
def lnL (ls : List (List Int)) (os : List Int) : List Int := os.foldl (lnS ls) (List.replicate ls.length (-1))
theorem lnL_succ {ls : List (List Int)} {os : List Int} {i : Nat} {o : Int} (h : os[i]? = some o) : lnL ls (os.take (i + 1)) = lnS ls (lnL ls (os.take i)) o := by
  unfold lnL
  rw [List.take_add_one, h, Option.toList_some, List.foldl_append]
  rfl
theorem lnS_len (ls : List (List Int)) (g : List Int) (i : Int) : (lnS ls g i).length = g.length := by
  unfold lnS
  split <;> simp
theorem lnL_len (ls : List (List Int)) (os : List Int) : (lnL ls os).length = ls.length := by
  have : ∀ (os g : List Int), (os.foldl (lnS ls) g).length = g.length := by
    intro os
    induction os with
    | nil => intro g; rfl
    | cons o os ih => intro g; rw [List.foldl_cons, ih, lnS_len]
  unfold lnL
  rw [this, List.length_replicate]
/-- An order of all owners. -/
def isO (n : Nat) (os : List Int) : Prop := os.length = n ∧ (∀ o ∈ os, inP n o) ∧ os.Nodup
theorem isO.all {n : Nat} {os : List Int} (h : isO n os) : ∀ k, k < n → (k : Int) ∈ os := by
  intro k hk
  refine nodup_cover h.2.2 (m := nums n) (fun o ho => mem_nums.2 ?_) (by rw [show (nums n).length = n by simp [nums], h.1]; exact Nat.le_refl _) k (mem_nums.2 ?_)
  · exact h.2.1 o ho
  · exact ⟨by omega, by omega⟩
/-- What holds after some have taken places. -/
structure LnOk (P : Int) (ls : List (List Int)) (os : List Int) (i : Nat) (g : List Int) : Prop where
  good : Good P ls g
  rest : ∀ k, k < ls.length → (k : Int) ∉ os.take i → has g k = -1
  full : ∀ k, k < ls.length → (k : Int) ∈ os.take i → ¬ 0 ≤ has g k → ∀ p ∈ lst ls k, p ∈ g
theorem mem_set_keep {g : List Int} {i : Nat} {p q : Int} (hi : i < g.length) (h : has g i = -1) (hq : q ∈ g) (h0 : 0 ≤ q) : q ∈ g.set i p := by
  obtain ⟨k, hk, rfl⟩ := List.mem_iff_getElem.1 hq
  by_cases e : k = i
  · subst e
    rw [has_get (List.getElem?_eq_getElem hk)] at h
    omega
  · rw [List.mem_iff_getElem]
    exact ⟨k, by simpa using hk, by rw [List.getElem_set_ne (Ne.symm e)]⟩
theorem ln_ok {P : Int} {ls : List (List Int)} (hv : Val P ls) {os : List Int} (ho : isO ls.length os) : ∀ i, i ≤ os.length → LnOk P ls os i (lnL ls (os.take i)) := by
  have hP := hv.hP
  have hls : ∀ l ∈ ls, ∀ p ∈ l, inP P p := fun l hl => (hv.l l hl).1
  intro i
  induction i with
  | zero =>
    intro _
    rw [List.take_zero]
    refine ⟨good_none P (by omega) ls, fun k hk _ => ?_, fun k hk h => by rw [List.take_zero] at h; cases h⟩
    exact has_get (by simp [lnL, hk])
  | succ i ih =>
    intro hi
    have h := ih (by omega)
    obtain ⟨o, hoi⟩ : ∃ o, os[i]? = some o := ⟨_, List.getElem?_eq_getElem (by omega)⟩
    have hom := List.mem_of_getElem? hoi
    have hor := ho.2.1 o hom
    obtain ⟨k0, rfl⟩ : ∃ k0 : Nat, o = (k0 : Int) := ⟨o.toNat, by have := hor.1; omega⟩
    have hk0 : k0 < ls.length := by have := hor.2; omega
    have hni : (k0 : Int) ∉ os.take i := by
      intro hm
      have hn := ho.2.2
      rw [← List.take_append_drop i os, List.nodup_append] at hn
      refine hn.2.2 _ hm (k0 : Int) ?_ rfl
      have hd : os.drop i = (k0 : Int) :: os.drop (i + 1) := by
        have h2 := (List.getElem?_eq_some_iff.1 hoi).2
        rw [← h2]; exact List.drop_eq_getElem_cons (by omega)
      rw [hd]
      simp
    have hfree := h.rest k0 hk0 hni
    have hg0 : k0 < (lnL ls (os.take i)).length := by rw [lnL_len]; exact hk0
    have mem : ∀ k : Nat, (k : Int) ∈ os.take (i + 1) ↔ (k : Int) ∈ os.take i ∨ k = k0 := by
      intro k
      rw [List.take_add_one, hoi, Option.toList_some, List.mem_append, List.mem_singleton]
      constructor
      · rintro (h | h)
        · exact .inl h
        · exact .inr (by omega)
      · rintro (h | h)
        · exact .inl h
        · exact .inr (by omega)
    rw [lnL_succ hoi]
    unfold lnS
    generalize lnL ls (os.take i) = g at *
    by_cases hf : 0 ≤ fr g (lst ls k0)
    · obtain ⟨k, p, e1, hk, hp, hpn, _⟩ := fr_some hf
      rw [if_pos hf, e1, Int.toNat_natCast, Int.toNat_natCast, hp, Option.getD_some]
      have hpm := List.mem_of_getElem? hp
      have hpin := lst_in hls hpm
      refine ⟨good_set h.good hk0 hpin hpm (fun j hj _ e => hpn (e ▸ has_mem (by rw [h.good.len]; exact hj))), fun j hj hjn => ?_, fun j hj hjm hjf q hq => ?_⟩
      · rw [mem] at hjn
        rw [has_set hg0, if_neg (fun e => hjn (.inr e))]
        exact h.rest j hj (fun e => hjn (.inl e))
      · rw [has_set hg0] at hjf
        have hjk : j ≠ k0 := fun e => hjf (by rw [if_pos e]; exact hpin.1)
        rw [if_neg hjk] at hjf
        have hqg := h.full j hj (((mem j).1 hjm).resolve_right hjk) hjf q hq
        exact mem_set_keep hg0 hfree hqg (lst_in hls hq).1
    · rw [if_neg hf]
      obtain ⟨_, hall⟩ := fr_none hf
      refine ⟨h.good, fun j hj hjn => h.rest j hj (fun e => hjn ((mem j).2 (.inl e))), fun j hj hjm hjf => ?_⟩
      rcases (mem j).1 hjm with hjm | rfl
      · exact h.full j hj hjm hjf
      · exact hall
theorem ln_end {P : Int} {ls : List (List Int)} (hv : Val P ls) {os : List Int} (ho : isO ls.length os) : Good P ls (lnL ls os) ∧ ∀ k, k < ls.length → ¬ 0 ≤ has (lnL ls os) k → ∀ p ∈ lst ls k, p ∈ lnL ls os := by
  have h := ln_ok hv ho os.length (Nat.le_refl _)
  rw [List.take_length] at h
  exact ⟨h.good, fun k hk => h.full k hk (by rw [List.take_length]; exact ho.all k hk)⟩
/-- At least the half. -/
theorem ln_half {P : Int} {ls : List (List Int)} {g g' : List Int} (hg : Good P ls g) (hf : ∀ k, k < ls.length → ¬ 0 ≤ has g k → ∀ p ∈ lst ls k, p ∈ g) (hg' : Good P ls g') : srv g' ≤ 2 * srv g := by
  rw [srv_sv g', filter_split (fun k => decide (0 ≤ has g k)) (sv g')]
  have h1 : ((sv g').filter (fun k => decide (0 ≤ has g k))).length ≤ srv g := by
    rw [srv_sv g]
    refine nodup_len ((sv_nodup g').filter _) (fun k hk => ?_)
    rw [List.mem_filter, mem_sv, decide_eq_true_eq] at hk
    rw [mem_sv, hg.len, ← hg'.len]
    exact ⟨hk.1.1, hk.2⟩
  have h2 : ((sv g').filter (fun k => !decide (0 ≤ has g k))).length ≤ srv g := by
    have hn : (((sv g').filter (fun k => !decide (0 ≤ has g k))).map (has g')).Nodup := by
      rw [nodup_map_inj ((sv_nodup g').filter _)]
      intro a ha b hb e
      rw [List.mem_filter, mem_sv, hg'.len] at ha hb
      exact hg'.inj a b ha.1.1 hb.1.1 ha.1.2 e
    have := nodup_len hn (m := given g) (fun p hp => by
      obtain ⟨k, hk, rfl⟩ := List.mem_map.1 hp
      rw [List.mem_filter, mem_sv, hg'.len] at hk
      obtain ⟨⟨k1, k2⟩, k3⟩ := hk
      have k3' : ¬ 0 ≤ has g k := by simpa using k3
      have := hf k k1 k3' _ (hg'.wish k k1 k2)
      unfold given
      rw [List.mem_filter]
      exact ⟨this, by simpa using k2⟩)
    rw [List.length_map] at this
    rw [given_sv, List.length_map, ← srv_sv] at this
    exact this
  omega
theorem ln_most {P : Int} {ls : List (List Int)} (hv : Val P ls) {os : List Int} (ho : isO ls.length os) : most P ls ≤ 2 * srv (lnL ls os) := by
  have hP := hv.hP
  have hls : ∀ l ∈ ls, ∀ p ∈ l, inP P p := fun l hl => (hv.l l hl).1
  obtain ⟨⟨g', hg', e⟩, _⟩ := most_spec (by omega : (0 : Int) ≤ P) hls
  obtain ⟨h1, h2⟩ := ln_end hv ho
  rw [← e]
  exact ln_half h1 h2 hg'
end Go.Proofs.Ytlmbobbefgcolaa

namespace Go.Proofs.Ytlmbobbefgcolaa
open Go Go.Eng
/-- The error of wishes and an order. -/
def lnE (P : Int) (ls : List (List Int)) (os : List Int) : Int := if vW P ls = 0 then (if decide (os.length = ls.length) && (os.all (fun o => decide (inP ls.length o)) && decide os.Nodup) then 0 else 1) else vW P ls
theorem lnE_0 {P : Int} {ls : List (List Int)} {os : List Int} : lnE P ls os = 0 ↔ vW P ls = 0 ∧ isO ls.length os := by
  unfold lnE isO
  by_cases h0 : vW P ls = 0
  · rw [if_pos h0]
    constructor
    · intro h
      split at h
      · rename_i hc
        simp only [Bool.and_eq_true, decide_eq_true_eq, List.all_eq_true] at hc
        exact ⟨h0, hc.1, hc.2.1, hc.2.2⟩
      · cases h
    · rintro ⟨_, h1, h2, h3⟩
      rw [if_pos]
      simp only [Bool.and_eq_true, decide_eq_true_eq, List.all_eq_true]
      exact ⟨h1, h2, h3⟩
  · rw [if_neg h0]
    exact ⟨fun h => absurd h h0, fun h => absurd h.1 h0⟩
theorem lnE_1 {P : Int} {ls : List (List Int)} {os : List Int} (h0 : vW P ls = 0) (h : ¬ isO ls.length os) : lnE P ls os = 1 := by
  unfold lnE
  rw [if_pos h0, if_neg]
  intro hc
  simp only [Bool.and_eq_true, decide_eq_true_eq, List.all_eq_true] at hc
  exact h ⟨hc.1, hc.2.1, hc.2.2⟩
/-- A line, or the error. -/
def LnR (P : Int) (ls : List (List Int)) (os : List Int) (A : AHeap) (r : AV) (H' : AHeap) : Prop :=
  A <+: H' ∧ (lnE P ls os ≠ 0 → r = .tuple [.nilS, I (lnE P ls os)]) ∧ (lnE P ls os = 0 → ∃ y, r = .tuple [y, I 0] ∧ L1 H' y (lnL ls os))
theorem LnR.no {P : Int} {ls : List (List Int)} {os : List Int} {A : AHeap} {e : Int} (h : lnE P ls os = e) (h0 : ¬ e = 0) {H : AHeap} (hp : A <+: H) : LnR P ls os A (.tuple [.nilS, I e]) H :=
  ⟨hp, fun _ => by rw [h], fun h1 => absurd (h ▸ h1) h0⟩
/-- What the loop of the document's Line holds: the list, and the places that are taken. -/
structure Dl (A : AHeap) (n : Nat) (H : AHeap) (vt : AV) (out tk : List Int) : Prop where
  ol : OL 1 Go.Eng.e1 A H n (.sl 1 n 0 out.length true) out
  tk : AccL 1 Go.Eng.e1 A H vt tk
  ne : ∀ m len, vt = .sl 1 m 0 len false → m ≠ n
theorem Dl.set {A : AHeap} {n : Nat} {H : AHeap} {vt : AV} {out tk : List Int} (h : Dl A n H vt out tk) (i : Nat) (z : Int) : Dl A n (H.set n (.cells true ((out.set i z).flatMap Go.Eng.e1))) vt (out.set i z) tk := by
  have h1 := h.ol.set i z
  refine ⟨by rw [List.length_set]; exact h1, ⟨pre_set h.tk.pre h.ol.new _, h.tk.2.1, ?_⟩, h.ne⟩
  rcases h.tk.2.2 with h2 | ⟨h0, m, h2, h3, h4⟩
  · exact .inl h2
  · exact .inr ⟨h0, m, h2, h3, by rw [List.getElem?_set_ne (Ne.symm (h.ne m _ h2))]; exact h4⟩
theorem Dl.push {A : AHeap} {n : Nat} {H : AHeap} {vt : AV} {out tk : List Int} (h : Dl A n H vt out tk) (z : Int) (hl : tk.length + 1 ≤ lim) :
    ∃ v' H2, appA 1 (H ++ [.cells true [I z]]) vt (.sl 1 H.length 0 1 true) = some (v', H2) ∧ Dl A n H2 v' out (tk ++ [z]) := by
  obtain ⟨v', H2, h1, h2, h3, n', len', h4, h5⟩ := AccL_push2 h.tk e1_len (by omega) z hl
  have hn := h.ol.lt
  exact ⟨v', H2, h1, ⟨⟨e1_len, h2.pre, h.ol.new, h3 n _ h.ol.ob (fun m len e => (h.ne m len e).symm), true, rfl⟩, h2, fun m len e => by rw [h4] at e; cases e; omega⟩⟩
end Go.Proofs.Ytlmbobbefgcolaa

namespace Go.Proofs.Ytlmbobbefgcolaa
open Go Go.Eng
def sR : Go.Shelf.Ren := ⟨fun n => if n = 5 then 99 else if n = 8 then 106 else if n = 7 then 105 else if n = 19 then 118 else if n = 20 then 119 else if n = 10 then 109 else if n = 11 then 110 else if n = 12 then 111 else if n = 13 then 112 else if n = 14 then 113 else if n = 15 then 114 else if n = 16 then 115 else if n = 17 then 116 else if n = 18 then 117 else if n = 30 then 120 else if n = 31 then 121 else if n = 32 then 122 else if n = 33 then 123 else if n = 34 then 124 else if n = 35 then 103 else if n = 40 then 125 else n, fun n => if n = 23 then 27 else if n = 25 then 3 else if n = 32 then 63 else if n = 22 then 27 else if n = 44 then 94 else if n = 46 then 97 else if n = 36 then 102 else if n = 35 then 101 else if n = 41 then 107 else if n = 53 then 111 else if n = 57 then 115 else if n = 63 then 117 else if n = 64 then 118 else n, fun g => g⟩
theorem zr_run {P : Program} {t : TypeId} {i : TypeInfo} {v : Value} (hi : P.info? t = some i) (hz : i.zero = some v) (w : World) : (zeroValue t).run P w = .ok v w := by
  simp [zeroValue, typeInfo, hi, hz]
theorem info_zero {P : Program} {t : TypeId} {v : Value} (h : (P.info? t).bind (·.zero) = some v) (w : World) : (zeroValue t).run P w = .ok v w := by
  cases hi : P.info? t with
  | none => rw [hi] at h; cases h
  | some i => rw [hi] at h; exact zr_run hi h w
theorem sortL : SlLaysM.n5 Try.prog sR where
  mixed := hmix
  f5 := ⟨ "slices.Sort[[]int,int]", by decide, by kernel_rfl⟩
  f7 := ⟨ "slices.pdqsortOrdered[int]", by decide, by kernel_rfl⟩
  f8 := by kernel_rfl
  f10 := ⟨ "slices.insertionSortOrdered[int]", by decide, by kernel_rfl⟩
  f11 := ⟨ "slices.heapSortOrdered[int]", by decide, by kernel_rfl⟩
  f12 := ⟨ "slices.breakPatternsOrdered[int]", by decide, by kernel_rfl⟩
  f13 := ⟨ "slices.choosePivotOrdered[int]", by decide, by kernel_rfl⟩
  f14 := ⟨ "slices.reverseRangeOrdered[int]", by decide, by kernel_rfl⟩
  f15 := ⟨ "slices.partialInsertionSortOrdered[int]", by decide, by kernel_rfl⟩
  f16 := ⟨ "cmp.Less[int]", by decide, by kernel_rfl⟩
  f17 := ⟨ "slices.partitionEqualOrdered[int]", by decide, by kernel_rfl⟩
  f18 := ⟨ "slices.partitionOrdered[int]", by decide, by kernel_rfl⟩
  f19 := by kernel_rfl
  f20 := by kernel_rfl
  f30 := ⟨ "slices.siftDownOrdered[int]", by decide, by kernel_rfl⟩
  f31 := by kernel_rfl
  f32 := by kernel_rfl
  f33 := ⟨ "slices.medianAdjacentOrdered[int]", by decide, by kernel_rfl⟩
  f34 := ⟨ "slices.medianOrdered[int]", by decide, by kernel_rfl⟩
  f35 := ⟨ "cmp.isNaN[int]", by decide, by kernel_rfl⟩
  f40 := ⟨ "slices.order2Ordered[int]", by decide, by kernel_rfl⟩
  t0 := by kernel_rfl
  a0 := Go.Eng.run_isAgg (by kernel_rfl)
  z0 := Go.Eng.run_sizeOf (by kernel_rfl)
  v0 := info_zero (by kernel_rfl)
  t3 := by kernel_rfl
  a3 := Go.Eng.run_isAgg (by kernel_rfl)
  z3 := Go.Eng.run_sizeOf (by kernel_rfl)
  v3 := info_zero (by kernel_rfl)
  t4 := by kernel_rfl
  a4 := Go.Eng.run_isAgg (by kernel_rfl)
  z4 := Go.Eng.run_sizeOf (by kernel_rfl)
  v4 := info_zero (by kernel_rfl)
  t5 := by kernel_rfl
  a5 := Go.Eng.run_isAgg (by kernel_rfl)
  z5 := Go.Eng.run_sizeOf (by kernel_rfl)
  v5 := info_zero (by kernel_rfl)
  t9 := by kernel_rfl
  a9 := Go.Eng.run_isAgg (by kernel_rfl)
  z9 := Go.Eng.run_sizeOf (by kernel_rfl)
  v9 := info_zero (by kernel_rfl)
  t22 := by kernel_rfl
  a22 := Go.Eng.run_isAgg (by kernel_rfl)
  z22 := Go.Eng.run_sizeOf (by kernel_rfl)
  v22 := info_zero (by kernel_rfl)
  t23 := by kernel_rfl
  a23 := Go.Eng.run_isAgg (by kernel_rfl)
  z23 := Go.Eng.run_sizeOf (by kernel_rfl)
  v23 := info_zero (by kernel_rfl)
  t25 := by kernel_rfl
  a25 := Go.Eng.run_isAgg (by kernel_rfl)
  z25 := Go.Eng.run_sizeOf (by kernel_rfl)
  v25 := info_zero (by kernel_rfl)
  t32 := by kernel_rfl
  a32 := Go.Eng.run_isAgg (by kernel_rfl)
  z32 := Go.Eng.run_sizeOf (by kernel_rfl)
  v32 := info_zero (by kernel_rfl)
  t35 := by kernel_rfl
  a35 := Go.Eng.run_isAgg (by kernel_rfl)
  z35 := Go.Eng.run_sizeOf (by kernel_rfl)
  v35 := info_zero (by kernel_rfl)
  t36 := by kernel_rfl
  a36 := Go.Eng.run_isAgg (by kernel_rfl)
  z36 := Go.Eng.run_sizeOf (by kernel_rfl)
  v36 := info_zero (by kernel_rfl)
  t41 := by kernel_rfl
  a41 := Go.Eng.run_isAgg (by kernel_rfl)
  z41 := Go.Eng.run_sizeOf (by kernel_rfl)
  v41 := info_zero (by kernel_rfl)
  t44 := by kernel_rfl
  a44 := Go.Eng.run_isAgg (by kernel_rfl)
  z44 := Go.Eng.run_sizeOf (by kernel_rfl)
  v44 := info_zero (by kernel_rfl)
  t46 := by kernel_rfl
  a46 := Go.Eng.run_isAgg (by kernel_rfl)
  z46 := Go.Eng.run_sizeOf (by kernel_rfl)
  v46 := info_zero (by kernel_rfl)
  t53 := by kernel_rfl
  a53 := Go.Eng.run_isAgg (by kernel_rfl)
  z53 := Go.Eng.run_sizeOf (by kernel_rfl)
  v53 := info_zero (by kernel_rfl)
  t57 := by kernel_rfl
  a57 := Go.Eng.run_isAgg (by kernel_rfl)
  z57 := Go.Eng.run_sizeOf (by kernel_rfl)
  v57 := info_zero (by kernel_rfl)
  t63 := by kernel_rfl
  a63 := Go.Eng.run_isAgg (by kernel_rfl)
  z63 := Go.Eng.run_sizeOf (by kernel_rfl)
  v63 := info_zero (by kernel_rfl)
  t64 := by kernel_rfl
  a64 := Go.Eng.run_isAgg (by kernel_rfl)
  z64 := Go.Eng.run_sizeOf (by kernel_rfl)
  v64 := info_zero (by kernel_rfl)
end Go.Proofs.Ytlmbobbefgcolaa

namespace Go.Proofs.Ytlmbobbefgcolaa
open Go Go.Eng
def m100p0 : MCode :=
 .ops [⟨(some 5), some undefA, none, false, .ld (.ld 1 false (.s 1))⟩,
   ⟨(some 6), some undefA, none, false, .pu (.len (.s 5))⟩,
   ⟨(some 7), some undefA, none, false, .pu (.mov (.c (.int .i64 0)))⟩]
def m100p2 : MCode :=
 .ops [⟨(some 8), some undefA, none, false, .pu (.bin .lss (.s 7) (.s 6))⟩]
def m100p3 : MCode :=
 .cond (.s 8) (.skip)
 (.exit 0)
def m100p4 : MCode :=
 .ops [⟨(some 9), some undefA, none, false, .pu (.idx 1 (.s 5) (.s 7))⟩,
   ⟨(some 10), some undefA, none, false, .ld (.ld 1 false (.s 9))⟩,
   ⟨(some 4), some undefA, none, false, .pu (.mov (.s 10))⟩]
def m100p6 : MCode :=
 .cond (.s 14) (.ret)
 (.skip)
def m100p7 : MCode :=
 .ops [⟨(some 15), some undefA, none, false, .pu (.bin .add (.s 7) (.c (.int .i64 1)))⟩,
   ⟨(some 7), some undefA, none, false, .pu (.mov (.s 15))⟩]
theorem it_Values {xs : List Int} {v : AV} {A : AHeap} {b : Nat} {Yd : AV → AHeap → AHeap → Prop} {Hs : Nat → AHeap} (hb : ldA 1 false (.ptr b 0) A = some v) (hx : L1 A v xs) (hl : xs.length ≤ 1000000) (hp : ∀ k, k ≤ xs.length → A <+: Hs k)
    (hstep : ∀ (k : Nat) (z : Int), xs[k]? = some z → Yd (I z) (Hs k) (Hs (k + 1))) (h0 : ldA 1 false (.ptr b 0) (Hs 0) = some v) : AIter Try.prog 100 [.ptr b 0] (Hs 0) (Hs xs.length) Yd := by
  refine aiter_of Try.func100 (by kernel_rfl) rfl rfl (fun n l ρ w hs hy => ?_)
  refine WC_seq (WC_pure hmix (m := m100p0) (by kernel_rfl) ?_)
  have hxk : ∀ k, k ≤ xs.length → L1 (Hs k) v xs := fun k hk => hx.mono (hp k hk)
  show AW Try.prog m100p0 _ ([.yld l, .ptr b 0] ++ List.replicate 14 .junk) _
  simp (maxSteps := 4000000) -implicitDefEqProofs -dsimp (disch := omega) only [↓AW_ops, ↓AOps_nil, ↓AOps_pu, ↓AOps_ld, on_some, ↓then_normal, pval, lval, rd_S, rd_C, put_S, List.replicate_succ, List.replicate_zero, List.set_cons_zero, List.set_cons_succ, List.getElem?_cons_zero, List.getElem?_cons_succ, Option.getD_some, List.cons_append, List.nil_append, m100p0, h0, hx.len]
  refine WC_block (by decide) ?_
  refine WC_loopA 16 (fun i : Nat => i ≤ xs.length) (fun i => [(0, .yld l), (1, .ptr b 0), (5, v), (6, I xs.length), (7, I i)]) (fun i => Hs i) (fun i => xs.length - i) 0 (by omega) rfl (by simp [Has, rd_s]) rfl ?_
  intro i hi
  refine WC_seq (WC_pure hmix (m := m100p2) (by kernel_rfl) ?_)
  by_cases hlt : i < xs.length
  · obtain ⟨z, hz⟩ : ∃ z, xs[i]? = some z := ⟨_, List.getElem?_eq_getElem hlt⟩
    have hlt' : (i : Int) < xs.length := by omega
    simp (maxSteps := 4000000) -implicitDefEqProofs -dsimp (disch := omega) only [↓AW_ops, ↓AOps_nil, ↓AOps_pu, on_some, ↓then_normal, pval, rd_S, put_S, mk, List.foldl_cons, List.foldl_nil, List.replicate_succ, List.replicate_zero, List.set_cons_zero, List.set_cons_succ, List.getElem?_cons_zero, List.getElem?_cons_succ, Option.getD_some, bin_lss, decide_true, m100p2, hlt']
    refine WC_seq (WC_pure hmix (m := m100p3) (by kernel_rfl) ?_)
    simp (maxSteps := 4000000) -implicitDefEqProofs -dsimp (disch := omega) only [↓AW_skip, ↓AW_cond, condB_t, ↓then_normal, rd_S, List.getElem?_cons_zero, List.getElem?_cons_succ, Option.getD_some, m100p3]
    refine WC_seq (WC_block (by decide) (WC_seq (WC_pure hmix (m := m100p4) (by kernel_rfl) ?_)))
    have hxi := hxk i hi
    simp (maxSteps := 4000000) -implicitDefEqProofs -dsimp (disch := omega) only [↓AW_ops, ↓AOps_nil, ↓AOps_pu, ↓AOps_ld, on_some, ↓then_normal, pval, lval, rd_S, put_S, partA, eq_self, List.set_cons_zero, List.set_cons_succ, List.getElem?_cons_zero, List.getElem?_cons_succ, List.drop_zero, List.take_succ_cons, List.take_nil, Option.getD_some, List.length_cons, List.length_nil, Nat.reduceLeDiff, Nat.zero_add, if_true, if_false, Bool.false_eq_true, Go.Eng.e1, m100p4, hxi.idx hlt, hxi.ld0 hz 1 false (by decide)]
    refine WC_seq (WC_yield (H2 := Hs (i + 1)) hy ?_ ?_ ?_ ?_)
    · rfl
    · simp
    · exact hstep i z hz
    simp (maxSteps := 4000000) -implicitDefEqProofs -dsimp (disch := omega) only [↓then_normal, rd_S, List.set_cons_zero, List.set_cons_succ, List.getElem?_cons_zero, List.getElem?_cons_succ, Option.getD_some]
    refine WC_pure hmix (m := m100p6) (by kernel_rfl) ?_
    simp (maxSteps := 4000000) -implicitDefEqProofs -dsimp (disch := omega) only [↓AW_skip, ↓AW_cond, condB_f, ↓then_normal, ↓inBlock_normal, rd_S, List.getElem?_cons_zero, List.getElem?_cons_succ, Option.getD_some, m100p6]
    refine WC_pure hmix (m := m100p7) (by kernel_rfl) ?_
    simp (maxSteps := 4000000) -implicitDefEqProofs -dsimp (disch := omega) only [↓AW_ops, ↓AOps_nil, ↓AOps_pu, on_some, ↓then_normal, pval, rd_S, rd_C, put_S, eq_self, List.set_cons_zero, List.set_cons_succ, List.getElem?_cons_zero, List.getElem?_cons_succ, Option.getD_some, List.length_cons, List.length_nil, Nat.reduceAdd, Nat.zero_add, bin_add, w64, true_and, m100p7]
    exact ⟨i + 1, hlt, by simp [Has, rd_s], rfl, by omega⟩
  · have hlt' : ¬ ((i : Int) < xs.length) := by omega
    have hii : i = xs.length := by omega
    subst hii
    simp (maxSteps := 4000000) -implicitDefEqProofs -dsimp (disch := omega) only [↓AW_ops, ↓AOps_nil, ↓AOps_pu, on_some, ↓then_normal, pval, rd_S, put_S, mk, List.foldl_cons, List.foldl_nil, List.replicate_succ, List.replicate_zero, List.set_cons_zero, List.set_cons_succ, List.getElem?_cons_zero, List.getElem?_cons_succ, Option.getD_some, bin_lss, decide_false, m100p2, hlt']
    refine WC_seq (WC_pure hmix (m := m100p3) (by kernel_rfl) ?_)
    simp (maxSteps := 4000000) -implicitDefEqProofs -dsimp (disch := omega) only [↓AW_cond, ↓AW_exit, condB_f, ↓then_exit, ↓inBlock_exit, rd_S, eq_self, List.getElem?_cons_zero, List.getElem?_cons_succ, Option.getD_some, if_true, reduceCtorEq, m100p3]
    exact ⟨.inl trivial, gc_all⟩
/-- Step after step. -/
theorem chain {α : Type} {inv : Nat → α → Prop} {R : Nat → α → α → Prop} {x0 : α} (h0 : inv 0 x0) : ∀ n : Nat, (∀ k x, k < n → inv k x → ∃ y, R k x y ∧ inv (k + 1) y) → ∃ f : Nat → α, f 0 = x0 ∧ (∀ k, k ≤ n → inv k (f k)) ∧ ∀ k, k < n → R k (f k) (f (k + 1))
  | 0, _ => ⟨fun _ => x0, rfl, fun k hk => by rw [show k = 0 by omega]; exact h0, fun k hk => by omega⟩
  | n + 1, h => by
    obtain ⟨f, f0, f1, f2⟩ := chain h0 n (fun k x hk hi => h k x (by omega) hi)
    obtain ⟨y, hy1, hy2⟩ := h n (f n) (by omega) (f1 n (Nat.le_refl _))
    refine ⟨fun k => if k = n + 1 then y else f k, by simp [f0], fun k hk => ?_, fun k hk => ?_⟩
    · by_cases e : k = n + 1
      · subst e; simp only [if_true]; exact hy2
      · simp only [e, if_false]; exact f1 k (by omega)
    · by_cases e : k = n
      · subst e
        have : ¬ k = k + 1 := by omega
        simp only [this, if_false, if_true]
        exact hy1
      · have h1 : ¬ k = n + 1 := by omega
        have h2 : ¬ k + 1 = n + 1 := by omega
        simp only [h1, h2, if_false]
        exact f2 k (by omega)
end Go.Proofs.Ytlmbobbefgcolaa

namespace Go.Proofs.Ytlmbobbefgcolaa
open Go Go.Eng
def m104p0 : MCode :=
 .ops [⟨(some 2), some undefA, none, false, .ha (.newv (.s 0))⟩,
   ⟨(some 4), some undefA, none, false, .pu (.mov (.c (.nilS)))⟩]
def m104p1 : MCode :=
 .ops [⟨(some 6), some undefA, none, false, .pu (.mov (.s 1))⟩]
def m104p2 : MCode :=
 .ops [⟨(some 5), some undefA, none, false, .pu (.mov (.s 7))⟩]
def m104p3 : MCode :=
 .block 1 (.ops [⟨(some 8), some undefA, none, false, .ld (.ld 1 false (.s 2))⟩,
    ⟨(some 9), some undefA, none, false, .pu (.mov (.s 5))⟩,
    ⟨(some 10), some undefA, none, false, .ha (.blds 1 1 [.int .i64 0] [(0, 1, (.s 9))])⟩,
    ⟨(some 11), some undefA, none, false, .ha (.app 1 (.s 8) (.s 10))⟩,
    ⟨none, some undefA, none, false, .ha (.st 1 (.s 2) (.s 11))⟩])
/-- What has been laid together so far, in a box. -/
def Ap (B H : AHeap) (xs : List Int) : Prop := B <+: H ∧ ∃ v, H[B.length]? = some (.cells true [v]) ∧ ((xs = [] ∧ v = .nilS) ∨ (xs ≠ [] ∧ ∃ m, v = .sl 1 m 0 xs.length false ∧ B.length < m ∧ H[m]? = some (.cells true (xs.flatMap Go.Eng.e1))))
theorem Ap.acc {B H : AHeap} {xs : List Int} (h : Ap B H xs) : ∃ v, ldA 1 false (.ptr B.length 0) H = some v ∧ AccL 1 Go.Eng.e1 B H v xs := by
  obtain ⟨hp, v, hv, h⟩ := h
  refine ⟨v, by simp [ldA, partA, hv], hp, flatMap_length e1_len xs, ?_⟩
  rcases h with ⟨rfl, rfl⟩ | ⟨h0, m, rfl, hm, ho⟩
  · exact .inl ⟨rfl, rfl⟩
  · exact .inr ⟨List.length_pos_iff.2 h0, m, rfl, by omega, ho⟩
/-- One round of the loop. -/
theorem Ap.step {B H : AHeap} {xs : List Int} (h : Ap B H xs) (z : Int) (hl : xs.length + 1 ≤ lim) (f b : AV) :
    ∃ H', AW Try.prog m104p2 (MX.then (AW Try.prog m104p3 (fun e _ H1 => e = .normal ∧ H1 = H')) (fun _ _ _ => False)) [.nilS, f, .ptr B.length 0, .junk, .nilS, .junk, b, I z, .junk, .junk, .junk, .junk, .junk] H ∧ Ap B H' (xs ++ [z]) := by
  obtain ⟨hp, v, hv, h⟩ := h
  have l0 : ldA 1 false (.ptr B.length 0) H = some v := by simp [ldA, partA, hv]
  have hBl : B.length < H.length := (List.getElem?_eq_some_iff.1 hv).1
  have key : ∀ (v' : AV) (H2 : AHeap), appA 1 (H ++ [AObj.cells true [I z]]) v (.sl 1 H.length 0 1 true) = some (v', H2) → v'.cells? = some [v'] → H2[B.length]? = some (.cells true [v]) →
      AW Try.prog m104p2 (MX.then (AW Try.prog m104p3 (fun e _ H1 => e = .normal ∧ H1 = H2.set B.length (AObj.cells true [v']))) (fun _ _ _ => False)) [.nilS, f, .ptr B.length 0, .junk, .nilS, .junk, b, I z, .junk, .junk, .junk, .junk, .junk] H := by
    intro v' H2 happ hc hb2
    have hst : stA 1 (.ptr B.length 0) v' H2 = some (H2.set B.length (AObj.cells true [v'])) := by simp [stA, hb2, hc, splice]
    simp (maxSteps := 4000000) -implicitDefEqProofs -dsimp (disch := omega) only [↓AW_ops, ↓AW_block, ↓AOps_nil, ↓AOps_pu, ↓AOps_ld, ↓AOps_ha, on_some, extK_false, extK_app, ↓then_normal, ↓inBlock_normal, pval, lval, hval_st, hval_blds, hval_app, rd_S, put_S, cells_int, splice, fillA, repl, eq_self, List.set_cons_zero, List.set_cons_succ, List.getElem?_cons_zero, List.getElem?_cons_succ, List.drop_succ_cons, List.drop_nil, List.take_zero, Option.getD_some, Option.map_some, map_c, map_n, List.length_cons, List.length_nil, Nat.reduceLeDiff, Nat.zero_add, List.nil_append, List.append_nil, if_true, and_true, m104p2, m104p3, l0, repl, happ, hst]
  rcases h with ⟨rfl, rfl⟩ | ⟨h0, m, rfl, hm, ho⟩
  · have happ : appA 1 (H ++ [AObj.cells true [I z]]) .nilS (.sl 1 H.length 0 1 true) = some (.sl 1 (H ++ [AObj.cells true [I z]]).length 0 1 false, H ++ [AObj.cells true [I z]] ++ [AObj.cells true [I z]]) := by
      simp [appA, slCells, cellsAt, lim]
    have hb2 : (H ++ [AObj.cells true [I z]] ++ [AObj.cells true [I z]])[B.length]? = some (.cells true [AV.nilS]) := pre_get ((pre_app _ _).trans (pre_app _ _)) hv
    refine ⟨_, key _ _ happ rfl hb2, pre_set (hp.trans ((pre_app _ _).trans (pre_app _ _))) (Nat.le_refl _) _, _, by rw [List.getElem?_set_self (by simp; omega)]; rfl, .inr ⟨by simp, (H ++ [AObj.cells true [I z]]).length, rfl, by simp; omega, ?_⟩⟩
    rw [List.getElem?_set_ne (by simp; omega), get_new]
    rfl
  · have hml := (List.getElem?_eq_some_iff.1 ho).1
    have hfl := flatMap_length e1_len xs
    have happ : appA 1 (H ++ [AObj.cells true [I z]]) (.sl 1 m 0 xs.length false) (.sl 1 H.length 0 1 true) = some (.sl 1 (H ++ [AObj.cells true [I z]]).length 0 (xs.length + 1) false, (H ++ [AObj.cells true [I z]]).set m AObj.dead ++ [AObj.cells true (xs.flatMap Go.Eng.e1 ++ [I z])]) := by
      have h1 : (H ++ [AObj.cells true [I z]])[m]? = some (.cells true (xs.flatMap Go.Eng.e1)) := pre_get (pre_app _ _) ho
      have h2 : xs.length * 1 ≤ (xs.flatMap Go.Eng.e1).length := by omega
      have h3 : (xs.flatMap Go.Eng.e1).take (xs.length * 1) = xs.flatMap Go.Eng.e1 := List.take_of_length_le (by omega)
      have h4 : slCells 1 (H ++ [AObj.cells true [I z]]) (.sl 1 H.length 0 1 true) = some (1, [I z]) := by simp [slCells, cellsAt]
      have h5 : (xs.flatMap Go.Eng.e1).take xs.length = xs.flatMap Go.Eng.e1 := by rw [Nat.mul_one] at h3; exact h3
      simp [appA, h4, h1, hl, hfl, h5]
    have hb2 : ((H ++ [AObj.cells true [I z]]).set m AObj.dead ++ [AObj.cells true (xs.flatMap Go.Eng.e1 ++ [I z])])[B.length]? = some (.cells true [.sl 1 m 0 xs.length false]) := by
      rw [List.getElem?_append_left (by simp; omega), List.getElem?_set_ne (by omega)]
      exact pre_get (pre_app _ _) hv
    have hB2 : B <+: (H ++ [AObj.cells true [I z]]).set m AObj.dead := pre_set (hp.trans (pre_app _ _)) (by omega) _
    refine ⟨_, key _ _ happ rfl hb2, pre_set (hB2.trans (pre_app _ _)) (Nat.le_refl _) _, _, by rw [List.getElem?_set_self (by simp; omega)], .inr ⟨by simp, (H ++ [AObj.cells true [I z]]).length, by simp, by simp; omega, ?_⟩⟩
    rw [List.getElem?_set_ne (by simp; omega), List.getElem?_append_right (by simp)]
    simp [Go.Eng.e1]
theorem c_AppendSeq {xs : List Int} {v : AV} {B : AHeap} {b : Nat} (hb : ldA 1 false (.ptr b 0) B = some v) (hx : L1 B v xs) (hl : xs.length ≤ 1000000) :
    ACalls Try.prog 104 [.nilS, .fn 100 [.ptr b 0]] B (outV 1 B xs.length) (outH B (xs.flatMap Go.Eng.e1) xs.length) := by
  refine acalls_wf Try.func104 (by kernel_rfl) rfl (fun n ρ w hs => ?_)
  refine WF_seq (WC_pure hmix (m := m104p0) (by kernel_rfl) ?_)
  show AW Try.prog m104p0 _ ([.nilS, .fn 100 [.ptr b 0]] ++ List.replicate 11 .junk) _
  simp (maxSteps := 4000000) -implicitDefEqProofs -dsimp (disch := omega) only [↓AW_ops, ↓AOps_nil, ↓AOps_pu, ↓AOps_ha, on_some, extK_app, pval, hval, rd_S, rd_C, put_S, AV.cells?, eq_self, List.replicate_succ, List.replicate_zero, List.set_cons_zero, List.set_cons_succ, List.getElem?_cons_zero, Option.getD_some, List.cons_append, List.nil_append, true_and, m104p0]
  have p1 := pre_app B [AObj.cells true [AV.nilS]]
  have hb1 : ∀ {H : AHeap}, B <+: H → ldA 1 false (.ptr b 0) H = some v := fun hp => by
    unfold ldA at hb ⊢
    simp only at hb ⊢
    split at hb
    · rename_i rw l h; rw [pre_get hp h]; exact hb
    · cases hb
  have h0 : Ap B (B ++ [AObj.cells true [AV.nilS]]) [] := ⟨p1, _, get_new _ _, .inl ⟨rfl, rfl⟩⟩
  obtain ⟨Hs, f0, f1, f2⟩ := chain (inv := fun k H => Ap B H (xs.take k)) (R := fun k H H' => ∀ z, xs[k]? = some z → AW Try.prog m104p2 (MX.then (AW Try.prog m104p3 (fun e _ H1 => e = .normal ∧ H1 = H')) (fun _ _ _ => False)) [.nilS, .fn 100 [.ptr b 0], .ptr B.length 0, .junk, .nilS, .junk, .fn 100 [.ptr b 0], I z, .junk, .junk, .junk, .junk, .junk] H) (x0 := B ++ [AObj.cells true [AV.nilS]]) (by simpa using h0) xs.length (fun k H hk hi => by
    obtain ⟨z, hz⟩ : ∃ z, xs[k]? = some z := ⟨_, List.getElem?_eq_getElem hk⟩
    obtain ⟨H', h1, h2⟩ := hi.step z (by rw [List.length_take]; simp [lim]; omega) (.fn 100 [.ptr b 0]) (.fn 100 [.ptr b 0])
    refine ⟨H', fun z' hz' => ?_, ?_⟩
    · rw [hz] at hz'
      cases hz'
      exact h1
    · rw [List.take_add_one, hz]
      exact h2)
  refine WF_range hmix (ma := m104p2) (mb := m104p3) rfl rfl (by kernel_rfl) (by kernel_rfl) rfl rfl rfl rfl (by kernel_rfl) (by kernel_rfl) ?_ ⟨ρ, hs, rfl⟩
  refine WC_pure hmix (m := m104p1) (by kernel_rfl) ?_
  simp (maxSteps := 4000000) -implicitDefEqProofs -dsimp (disch := omega) only [↓AW_ops, ↓AOps_nil, ↓AOps_pu, on_some, pval, rd_S, put_S, eq_self, List.set_cons_zero, List.set_cons_succ, List.getElem?_cons_zero, List.getElem?_cons_succ, Option.getD_some, List.length_cons, List.length_nil, Nat.reduceAdd, Nat.zero_add, true_and, m104p1]
  have hend := f1 xs.length (Nat.le_refl _)
  rw [List.take_length] at hend
  obtain ⟨v1, hv1, hacc⟩ := hend.acc
  refine ⟨by decide, by decide, Hs xs.length, v1, ⟨100, [.ptr b 0], rfl, ?_⟩, hv1, hacc.gc flat_e1⟩
  rw [← f0]
  refine it_Values hb hx hl (fun k hk => (f1 k hk).1) (fun k z hz => ?_) (hb1 (by rw [f0]; exact p1))
  exact f2 k (List.getElem?_eq_some_iff.1 hz).1 z hz
theorem c_Values (v : AV) (hc : v.cells? = some [v]) (A : AHeap) : ACalls Try.prog 86 [v] A (.fn 100 [.ptr A.length 0]) (A ++ [.cells true [v]]) := by
  refine acalls hmix Try.func86 (by kernel_rfl) t86 1 rfl (by decide) ?_
  dsimp only [m86]
  simp (maxSteps := 4000000) -implicitDefEqProofs -dsimp (disch := omega) only [↓AW_ops, ↓AW_seq, ↓AW_ret, ↓AOps_nil, ↓AOps_pu, ↓AOps_ha, on_some, extK_app, ↓then_normal, ↓Fin_ret, pval, hval_newv, rd_S, rd_C, put_S, resV, resL, List.replicate_succ, List.replicate_zero, List.set_cons_zero, List.set_cons_succ, List.getElem?_cons_zero, List.getElem?_cons_succ, Option.getD_some, map_c, map_n, Nat.reduceSub, List.cons_append, List.nil_append, hc]
  exact gc_all
end Go.Proofs.Ytlmbobbefgcolaa

namespace Go.Proofs.Ytlmbobbefgcolaa
open Go Go.Eng
/-- slices.Sorted[int] [] -/
def m85 : MFun := ⟨9, [], [.mov (.s 2)],
 .seq (.ops [⟨(some 2), some undefA, none, false, .pu (.mov (.c (.nilS)))⟩])
 (.seq (.ops [⟨(some 4), some undefA, none, false, .pu (.mov (.s 0))⟩,
   ⟨(some 5), some undefA, none, false, .call 98 [(.s 4)]⟩,
   ⟨(some 3), some undefA, none, false, .pu (.mov (.s 5))⟩])
 (.seq (.ops [⟨(some 6), some undefA, none, false, .pu (.mov (.s 3))⟩,
   ⟨(some 7), some undefA, none, false, .call 99 [(.s 6)]⟩])
 (.seq (.ops [⟨(some 8), some undefA, none, false, .pu (.mov (.s 3))⟩,
   ⟨(some 2), some undefA, none, false, .pu (.mov (.s 8))⟩])
 (.ret))))⟩
theorem t85 : trF Try.prog [] [] Try.f85 = some m85 := by kernel_rfl
/-- slices.Collect[int] [] -/
def m98 : MFun := ⟨5, [], [.mov (.s 2)],
 .seq (.ops [⟨(some 2), some undefA, none, false, .pu (.mov (.c (.nilS)))⟩])
 (.seq (.ops [⟨(some 3), some undefA, none, false, .pu (.mov (.s 0))⟩,
   ⟨(some 4), some undefA, none, false, .call 104 [(.c (.nilS)), (.s 3)]⟩,
   ⟨(some 2), some undefA, none, false, .pu (.mov (.s 4))⟩])
 (.ret))⟩
theorem t98 : trF Try.prog [] [] Try.f98 = some m98 := by kernel_rfl
end Go.Proofs.Ytlmbobbefgcolaa

namespace Go.Proofs.Ytlmbobbefgcolaa
open Go Go.Eng
abbrev eI : Int → Value := Value.int .i64
theorem put_heap (w : World) (q blk off : Nat) (d : Array Int) (b : Nat) : (Go.Sort.putRow eI (Go.Sort.ahead w q) blk off d).heap[b]? = if blk = b then (w.heap[b]?).map (Go.Sort.onCells (Go.Sort.putCells eI off d)) else w.heap[b]? := by
  show (w.heap.modify blk (Go.Sort.onCells (Go.Sort.putCells eI off d)))[b]? = _
  rw [Array.getElem?_modify]
/-- What the block's cells hold after they were written. -/
theorem put_all {cs : Array Value} {o : Nat} {d : Array Int} (hm : o + d.size ≤ cs.size) : ((Go.Sort.putCells eI o d cs).toList.drop o).take d.size = d.toList.map eI := by
  apply List.ext_getElem?
  intro k
  by_cases hk : k < d.size
  · rw [List.getElem?_take, if_pos hk, List.getElem?_drop, Array.getElem?_toList]
    unfold Go.Sort.putCells
    rw [Array.getElem?_mapIdx, Array.getElem?_eq_getElem (by omega), List.getElem?_map, Array.getElem?_toList, Array.getElem?_eq_getElem hk]
    simp only [Option.map_some]
    rw [if_pos (by omega), show o + k - o = k by omega, getElem!_pos d k hk]
  · rw [List.getElem?_eq_none (by rw [List.length_take]; omega), List.getElem?_eq_none (by simp; omega)]
theorem flat_vals {ρ : Ren} : ∀ {xs : List Int} {vs : List Value}, LR ρ (xs.flatMap Go.Eng.e1) vs → vs = xs.map eI
  | [], vs, h => by
    have := h.1
    exact List.eq_nil_of_length_eq_zero (by simpa using this.symm)
  | x :: xs, [], h => by
    have := h.1
    simp [Go.Eng.e1] at this
  | x :: xs, v :: vs, h => by
    have h1 : LR ρ (I x :: xs.flatMap Go.Eng.e1) (v :: vs) := h
    have h2 := h1.head
    cases h2
    rw [flat_vals h1.tail]
    rfl
theorem vals_flat (ρ : Ren) : ∀ (xs : List Int), LR ρ (xs.flatMap Go.Eng.e1) (xs.map eI)
  | [] => LR.nil
  | x :: xs => LR.cons (.int .i64 x) (vals_flat ρ xs)
/-- The list, sorted. -/
def srt (xs : List Int) : List Int := xs.mergeSort (fun x y => decide (x ≤ y))
theorem srt_perm (xs : List Int) : (srt xs).Perm xs := List.mergeSort_perm _ _
theorem srt_nil : srt [] = [] := by simp [srt]
theorem srt_len (xs : List Int) : (srt xs).length = xs.length := (srt_perm xs).length_eq
theorem c_Sort {H : AHeap} {n : Nat} {full : Bool} {xs : List Int} (hn : H[n]? = some (.cells true (xs.flatMap Go.Eng.e1))) (hl : xs.length ≤ 1000000) :
    ACalls Try.prog 99 [.sl 1 n 0 xs.length full] H undefA (H.set n (.cells true ((srt xs).flatMap Go.Eng.e1))) := by
  refine ⟨⟨Try.f99, Try.func99, by kernel_rfl, by kernel_rfl⟩, fun ρ w cargs hs hlr => ?_⟩
  obtain ⟨cl⟩ := cargs
  have hle := hlr.1
  rcases cl with _ | ⟨c0, _ | ⟨c1, cl⟩⟩ <;> simp at hle
  have r0 := hlr.head
  cases r0 with
  | sl _ _ _ _ _ L a cap h1 h2 h3 h4 h5 =>
    have hob := hs.obj n L _ h1 hn
    cases hh : w.heap[L.b]? with
    | none => rw [hh] at hob; exact hob.elim
    | some b =>
      rw [hh] at hob
      cases b with
      | cells cs ty fz =>
        obtain ⟨ho1, ho2, hLR, hone⟩ := hob
        have hown := ho1 rfl
        obtain ⟨hcsz, hfz⟩ := ho2 hown
        have hfl := flatMap_length e1_len xs
        rw [Nat.mul_one] at hfl
        rw [hfl] at hLR hone
        have hvs := flat_vals hLR
        have hfit : xs.length = 0 ∨ L.o + xs.length ≤ cs.size := by
          have h := congrArg List.length hvs
          have hcl : cs.toList.length = cs.size := Array.length_toList
          rw [List.length_take, List.length_drop, hcl, List.length_map] at h
          omega
        by_cases h0 : xs.length = 0
        · have hx0 : xs = [] := List.eq_nil_of_length_eq_zero h0
          subst hx0
          refine (AnyM.slices_Sort_int_none sortL (some a) cap w).mono ?_
          rintro e w' ⟨rfl, rfl⟩
          have hset : H.set n (.cells true ((srt []).flatMap Go.Eng.e1)) = H := by
            rw [srt_nil]
            exact List.ext_getElem? (fun k => by
              rw [List.getElem?_set]
              by_cases e : n = k
              · subst e
                rw [if_pos rfl, if_pos (List.getElem?_eq_some_iff.1 hn).1, hn]
              · rw [if_neg e])
          rw [hset]
          exact ⟨ρ, _, rfl, undef_ok, hs, Step.refl _ _ _ hs⟩
        · have hcap := h5 hown
          have ha : a = ⟨L.b, L.o + 0, none⟩ := by
            rcases h4 with h | h
            · exact h
            · omega
          subst ha
          have hfit := hfit.resolve_left h0
          have hcell : ∀ j, j < xs.length → cs[L.o + j]? = (xs.map eI)[j]? := fun j hj => by
            rw [← hvs, List.getElem?_take, if_pos hj, List.getElem?_drop, Array.getElem?_toList]
          have hH : Go.Sort.Holds eI w L.b (L.o + 0) xs.toArray := by
            intro j hj
            have hj' : j < xs.length := by simpa using hj
            have hv := hcell j hj'
            rw [List.getElem?_map, List.getElem?_eq_getElem hj', Option.map_some] at hv
            unfold World.cell? World.frozen?
            simp only [hh, Nat.add_zero]
            subst hfz
            refine ⟨?_, by simp⟩
            rw [getElem!_pos xs.toArray j hj]
            simpa using hv
          have hblk : L.b < w.heap.size := (hs.dom n L h1).2
          refine (AnyM.slices_Sort_int sortL L.b (L.o + 0) cap xs w hH hblk (by omega)).mono ?_
          rintro e w' ⟨rfl, q, os, rfl⟩
          obtain ⟨d, hd⟩ : ∃ d : Array Int, d = (xs.mergeSort fun x y => decide (x ≤ y)).toArray := ⟨_, rfl⟩
          rw [← hd]
          have hdl : d.toList = srt xs := by rw [hd]; rfl
          have hds : d.size = xs.length := by rw [← Array.length_toList, hdl, srt_len]
          have hbk : (Go.Sort.putRow eI (Go.Sort.ahead w q) L.b (L.o + 0) d).heap[L.b]? = some (.cells (Go.Sort.putCells eI (L.o + 0) d cs) ty fz) := by
            rw [put_heap, if_pos rfl, hh]
            rfl
          have hfl2 := flatMap_length e1_len (srt xs)
          rw [Nat.mul_one, srt_len] at hfl2
          have hpp : ((Go.Sort.putCells eI (L.o + 0) d cs).toList.drop L.o).take ((srt xs).flatMap Go.Eng.e1).length = (srt xs).map eI := by
            rw [hfl2, ← hds, Nat.add_zero, put_all (by omega), hdl]
          have hwr := Sim.write (w' := Go.Sort.putRow eI (Go.Sort.ahead w q) L.b (L.o + 0) d) (o := .cells true ((srt xs).flatMap Go.Eng.e1)) hs h1 hown hn (by simp) (by simp) (by simp [Go.Sort.putRow, Go.Sort.mapBlock, Go.Sort.ahead]) rfl rfl rfl (fun b hb => by rw [put_heap, if_neg (Ne.symm hb)]) (by
            rw [hbk]
            refine ⟨fun _ => hown, fun _ => ⟨?_, hfz⟩, ?_, ?_⟩
            · unfold Go.Sort.putCells
              rw [Array.size_mapIdx]
              exact hcsz
            · rw [hpp]
              exact vals_flat ρ (srt xs)
            · rw [hpp]
              intro v hv
              obtain ⟨x, _, rfl⟩ := List.mem_map.1 hv
              rfl)
          obtain ⟨s1, st1⟩ := hwr
          have hold : ∀ {k : Nat}, k < (Go.Sort.putRow eI (Go.Sort.ahead w q) L.b (L.o + 0) d).heap.size → (Go.Sort.grow (Go.Sort.putRow eI (Go.Sort.ahead w q) L.b (L.o + 0) d) os).heap[k]? = (Go.Sort.putRow eI (Go.Sort.ahead w q) L.b (L.o + 0) d).heap[k]? := fun hk => Go.Sort.heap_grow_old _ _ hk
          have hsz : (Go.Sort.putRow eI (Go.Sort.ahead w q) L.b (L.o + 0) d).heap.size ≤ (Go.Sort.grow (Go.Sort.putRow eI (Go.Sort.ahead w q) L.b (L.o + 0) d) os).heap.size := by
            simp [Go.Sort.grow]
          have s2 := s1.world hsz (fun n L e => hold (s1.dom n L e).2)
          have st2 : Step ρ (H.set n (.cells true ((srt xs).flatMap Go.Eng.e1))) (Go.Sort.putRow eI (Go.Sort.ahead w q) L.b (L.o + 0) d) ρ (H.set n (.cells true ((srt xs).flatMap Go.Eng.e1))) (Go.Sort.grow (Go.Sort.putRow eI (Go.Sort.ahead w q) L.b (L.o + 0) d) os) :=
            ⟨fun _ _ => rfl, Nat.le_refl _, rfl, rfl, rfl, hsz, fun b hb _ => hold hb, fun _ h => .inr h, fun n L e => .inl (s1.dom n L e).1⟩
          exact ⟨ρ, _, rfl, undef_ok, s2, st1.trans st2⟩
      | _ => exact hob.elim
theorem c_Sort_nil (H : AHeap) : ACalls Try.prog 99 [.nilS] H undefA H := by
  refine ⟨⟨Try.f99, Try.func99, by kernel_rfl, by kernel_rfl⟩, fun ρ w cargs hs hlr => ?_⟩
  obtain ⟨cl⟩ := cargs
  have hle := hlr.1
  rcases cl with _ | ⟨c0, _ | ⟨c1, cl⟩⟩ <;> simp at hle
  have r0 := hlr.head
  cases r0
  refine (AnyM.slices_Sort_int_none sortL none 0 w).mono ?_
  rintro e w' ⟨rfl, rfl⟩
  exact ⟨ρ, _, rfl, undef_ok, hs, Step.refl _ _ _ hs⟩
theorem c_Collect {xs : List Int} {v : AV} {B : AHeap} {b : Nat} (hb : ldA 1 false (.ptr b 0) B = some v) (hx : L1 B v xs) (hl : xs.length ≤ 1000000) :
    ACalls Try.prog 98 [.fn 100 [.ptr b 0]] B (outV 1 B xs.length) (outH B (xs.flatMap Go.Eng.e1) xs.length) := by
  refine acalls hmix Try.func98 (by kernel_rfl) t98 1 rfl (by decide) ?_
  dsimp only [m98]
  simp (maxSteps := 4000000) -implicitDefEqProofs -dsimp (disch := omega) only [↓AW_ops, ↓AW_seq, ↓AOps_nil, ↓AOps_pu, ↓AOps_call, on_some, ↓then_normal, pval, rd_S, rd_C, put_S, List.replicate_succ, List.replicate_zero, List.set_cons_zero, List.set_cons_succ, List.getElem?_cons_zero, List.getElem?_cons_succ, Option.getD_some, map_c, map_n, Nat.reduceSub, List.cons_append, List.nil_append]
  refine CallK.of (c_AppendSeq hb hx hl) ?_
  simp (maxSteps := 4000000) -implicitDefEqProofs -dsimp (disch := omega) only [↓AW_ret, ↓AOps_nil, ↓AOps_pu, on_some, ↓then_normal, ↓Fin_ret, pval, rd_S, put_S, resV, resL, List.replicate_succ, List.replicate_zero, List.set_cons_zero, List.set_cons_succ, List.getElem?_cons_zero, List.getElem?_cons_succ, Option.getD_some, Nat.reduceSub, List.cons_append, List.nil_append, extK_of (pre_out B (xs.flatMap Go.Eng.e1) xs.length)]
  exact gc_all
/-- Sorted: a new list. -/
theorem c_Sorted {xs : List Int} {v : AV} {B : AHeap} {b : Nat} (hb : ldA 1 false (.ptr b 0) B = some v) (hx : L1 B v xs) (hl : xs.length ≤ 1000000) :
    ∃ y H', ACalls Try.prog 85 [.fn 100 [.ptr b 0]] B y H' ∧ B <+: H' ∧ L1 H' y (srt xs) := by
  by_cases h0 : xs.length = 0
  · have hx0 : xs = [] := List.eq_nil_of_length_eq_zero h0
    subst hx0
    have hc := c_Collect hb hx hl
    rw [show outV 1 B ([] : List Int).length = .nilS from rfl, show outH B (([] : List Int).flatMap Go.Eng.e1) ([] : List Int).length = B from rfl] at hc
    refine ⟨.nilS, B, ?_, List.prefix_refl B, by rw [srt_nil]; exact L1_nil B⟩
    refine acalls hmix Try.func85 (by kernel_rfl) t85 1 rfl (by decide) ?_
    dsimp only [m85]
    simp (maxSteps := 4000000) -implicitDefEqProofs -dsimp (disch := omega) only [↓AW_ops, ↓AW_seq, ↓AOps_nil, ↓AOps_pu, ↓AOps_call, on_some, ↓then_normal, pval, rd_S, rd_C, put_S, List.replicate_succ, List.replicate_zero, List.set_cons_zero, List.set_cons_succ, List.getElem?_cons_zero, List.getElem?_cons_succ, Option.getD_some, map_c, map_n, Nat.reduceSub, List.cons_append, List.nil_append]
    refine CallK.of (hc) ?_
    simp (maxSteps := 4000000) -implicitDefEqProofs -dsimp (disch := omega) only [↓AW_ops, ↓AW_seq, ↓AOps_nil, ↓AOps_pu, ↓AOps_call, on_some, extK_same, ↓then_normal, pval, rd_S, put_S, List.replicate_succ, List.replicate_zero, List.set_cons_zero, List.set_cons_succ, List.getElem?_cons_zero, List.getElem?_cons_succ, Option.getD_some, map_c, map_n, Nat.reduceSub, List.cons_append, List.nil_append]
    refine CallK.of (c_Sort_nil B) ?_
    simp (maxSteps := 4000000) -implicitDefEqProofs -dsimp (disch := omega) only [↓AW_ops, ↓AW_seq, ↓AW_ret, ↓AOps_nil, ↓AOps_pu, on_some, extK_same, ↓then_normal, ↓Fin_ret, pval, rd_S, put_S, resV, resL, List.replicate_succ, List.replicate_zero, List.set_cons_zero, List.set_cons_succ, List.getElem?_cons_zero, List.getElem?_cons_succ, Option.getD_some, Nat.reduceSub, List.cons_append, List.nil_append]
    exact gc_same rfl
  · have hc := c_Collect hb hx hl
    have hV : outV 1 B xs.length = .sl 1 B.length 0 xs.length false := by unfold outV; rw [if_neg h0]
    have hH : outH B (xs.flatMap Go.Eng.e1) xs.length = B ++ [.cells true (xs.flatMap Go.Eng.e1)] := by unfold outH; rw [if_neg h0]
    rw [hV, hH] at hc
    have hs := c_Sort (full := false) (get_new B (AObj.cells true (xs.flatMap Go.Eng.e1))) hl
    have hset : (B ++ [AObj.cells true (xs.flatMap Go.Eng.e1)]).set B.length (.cells true ((srt xs).flatMap Go.Eng.e1)) = B ++ [.cells true ((srt xs).flatMap Go.Eng.e1)] := by simp
    rw [hset] at hs
    refine ⟨.sl 1 B.length 0 xs.length false, _, ?_, pre_app B [AObj.cells true ((srt xs).flatMap Go.Eng.e1)], ?_⟩
    · refine acalls hmix Try.func85 (by kernel_rfl) t85 1 rfl (by decide) ?_
      dsimp only [m85]
      simp (maxSteps := 4000000) -implicitDefEqProofs -dsimp (disch := omega) only [↓AW_ops, ↓AW_seq, ↓AOps_nil, ↓AOps_pu, ↓AOps_call, on_some, ↓then_normal, pval, rd_S, rd_C, put_S, List.replicate_succ, List.replicate_zero, List.set_cons_zero, List.set_cons_succ, List.getElem?_cons_zero, List.getElem?_cons_succ, Option.getD_some, map_c, map_n, Nat.reduceSub, List.cons_append, List.nil_append]
      refine CallK.of (hc) ?_
      simp (maxSteps := 4000000) -implicitDefEqProofs -dsimp (disch := omega) only [↓AW_ops, ↓AW_seq, ↓AOps_nil, ↓AOps_pu, ↓AOps_call, on_some, extK_app, ↓then_normal, pval, rd_S, put_S, List.replicate_succ, List.replicate_zero, List.set_cons_zero, List.set_cons_succ, List.getElem?_cons_zero, List.getElem?_cons_succ, Option.getD_some, map_c, map_n, Nat.reduceSub, List.cons_append, List.nil_append]
      refine CallK.of (hs) ?_
      simp (maxSteps := 4000000) -implicitDefEqProofs -dsimp (disch := omega) only [↓AW_ops, ↓AW_seq, ↓AW_ret, ↓AOps_nil, ↓AOps_pu, on_some, extK_false, ↓then_normal, ↓Fin_ret, pval, rd_S, put_S, resV, resL, List.replicate_succ, List.replicate_zero, List.set_cons_zero, List.set_cons_succ, List.getElem?_cons_zero, List.getElem?_cons_succ, Option.getD_some, Nat.reduceSub, List.cons_append, List.nil_append]
      exact gc_all
    · have := (OL.new_mk e1_len B (srt xs) false).ls
      rwa [srt_len] at this
end Go.Proofs.Ytlmbobbefgcolaa

namespace Go.Proofs.Ytlmbobbefgcolaa
open Go Go.Eng
theorem srt_isS {n : Nat} {os : List Int} : isS n (srt os) ↔ (∀ o ∈ os, inP n o) ∧ os.Nodup := by
  have hp := srt_perm os
  have hs : (srt os).Pairwise (fun a b => decide (a ≤ b) = true) := List.pairwise_mergeSort (fun a b c h1 h2 => by simp only [decide_eq_true_eq] at *; omega) (fun a b => by simp only [Bool.or_eq_true, decide_eq_true_eq]; omega) os
  unfold isS
  constructor
  · rintro ⟨h1, h2⟩
    exact ⟨fun o ho => h1 o (hp.mem_iff.2 ho), hp.nodup_iff.1 (up_nodup h2)⟩
  · rintro ⟨h1, h2⟩
    refine ⟨fun o ho => h1 o (hp.mem_iff.1 ho), ?_⟩
    have hn := hp.nodup_iff.2 h2
    unfold Up
    refine List.Pairwise.imp₂ (fun a b h1 h2 => ?_) hs hn
    have : a ≤ b := by simpa using h1
    have : a ≠ b := h2
    omega
theorem s88 {P : Int} {v y : AV} {g : List Int} {H : AHeap} {nb : Nat} (hb : ldA 3 true (.ptr nb 0) H = some (.agg [I P, v, y])) (hg : L1 H y g) (hl : g.length ≤ 1000000) (p : Int) : ACalls Try.prog 88 [I p, .ptr nb 0] H (B (decide (p ∉ g))) H := by
  refine acalls hmix Try.func88 (by kernel_rfl) t88 2 rfl (by decide) ?_
  dsimp only [m88]
  simp (maxSteps := 4000000) -implicitDefEqProofs -dsimp (disch := omega) only [↓AW_ops, ↓AW_seq, ↓AOps_nil, ↓AOps_pu, ↓AOps_ld, ↓AOps_call, on_some, ↓then_normal, pval, lval, rd_S, rd_C, put_S, List.replicate_succ, List.replicate_zero, List.set_cons_zero, List.set_cons_succ, List.getElem?_cons_zero, List.getElem?_cons_succ, Option.getD_some, map_c, map_n, Nat.reduceSub, List.cons_append, List.nil_append, hb]
  refine CallK.of (s89 hg hl p) ?_
  by_cases h : fpos (fun y => decide (p = y)) g < 0
  · have hn := fpos_neg h
    rw [decide_eq_true hn]
    simp (maxSteps := 4000000) -implicitDefEqProofs -dsimp (disch := omega) only [↓AW_ret, ↓AOps_nil, ↓AOps_pu, on_some, extK_same, ↓then_normal, ↓Fin_ret, pval, rd_S, rd_C, put_S, resV, resL, List.replicate_succ, List.replicate_zero, List.set_cons_zero, List.set_cons_succ, List.getElem?_cons_zero, List.getElem?_cons_succ, Option.getD_some, Nat.reduceSub, List.cons_append, List.nil_append, bin_lss, decide_true, h]
    exact gc_same rfl
  · have hn : ¬ p ∉ g := by
      obtain ⟨k, hk, _, e⟩ := fpos_get h
      rw [← e]
      exact not_not_intro (has_mem hk)
    rw [decide_eq_false hn]
    simp (maxSteps := 4000000) -implicitDefEqProofs -dsimp (disch := omega) only [↓AW_ret, ↓AOps_nil, ↓AOps_pu, on_some, extK_same, ↓then_normal, ↓Fin_ret, pval, rd_S, rd_C, put_S, resV, resL, List.replicate_succ, List.replicate_zero, List.set_cons_zero, List.set_cons_succ, List.getElem?_cons_zero, List.getElem?_cons_succ, Option.getD_some, Nat.reduceSub, List.cons_append, List.nil_append, bin_lss, decide_false, h]
    exact gc_same rfl
set_option maxRecDepth 20000 in
set_option maxHeartbeats 16000000 in
theorem s52 {P : Int} {ws : List (AV × List Int)} {v u : AV} {os : List Int} {A : AHeap} (hw : LL A v ws) (hs : Sz ws) (ho : L1 A u os) (hol : os.length ≤ 1000) :
    ∃ r H', ACalls Try.prog 52 [.agg [I P, v], u] A r H' ∧ LnR P (lists ws) os A r H' := by
  refine acallsR hmix Try.func52 (by kernel_rfl) t52 _ 2 rfl (by decide) ?_
  rw [start2]
  dsimp only [m52]
  simp (maxSteps := 4000000) -implicitDefEqProofs -dsimp (disch := omega) only [↓AW_ops, ↓AW_seq, ↓AOps_nil, ↓AOps_pu, ↓AOps_call, on_some, ↓then_normal, pval, rd_mkS, rd_mkS0, Nat.reduceBEq, Nat.reduceLT, rd_C, put_mkS, chkd, bgot, cells_agg, partA, beq_self_eq_true, eq_self, List.getElem?_cons_zero, List.drop_zero, List.take_succ_cons, List.take_nil, map_c, map_n, List.length_cons, List.length_nil, Nat.reduceAdd, Nat.reduceSub, Nat.reduceLeDiff, Nat.reduceEqDiff, Nat.zero_add, if_true, if_false, Bool.cond_true, Bool.cond_false]
  refine CallK.of (s39 hw hs) ?_
  by_cases h0 : vW P (lists ws) = 0
  case neg =>
    simp (maxSteps := 4000000) -implicitDefEqProofs -dsimp (disch := omega) only [↓AW_ops, ↓AW_seq, ↓AW_cond, ↓AW_ret, ↓AOps_nil, ↓AOps_pu, on_some, extK_same, condB_t, ↓then_normal, ↓then_ret, ↓FinR_ret, pval, rd_mkS, rd_mkS0, Nat.reduceBEq, Nat.reduceLT, rd_C, put_mkS, resV, resL, beq_self_eq_true, Nat.reduceAdd, Nat.reduceSub, bin_neq, if_true, decide_true, Bool.cond_true, Bool.cond_false, not_false_eq_true, h0]
    exact ⟨_, _, gc_all, LnR.no (by unfold lnE; rw [if_neg h0]) h0 (List.prefix_refl A)⟩
  have hv := val_of h0
  have hP := hv.hP
  have hn : ws.length ≤ 7 := by simpa using hv.n
  have hwl : (lists ws).length = ws.length := by simp
  have hls : ∀ l ∈ lists ws, ∀ p ∈ l, inP P p := fun l hl => (hv.l l hl).1
  have hcu : u.cells? = some [u] := by
    rcases ho.inv with ⟨rfl, _⟩ | ⟨n, off, full, rw, l, rfl, _⟩ <;> rfl
  simp (maxSteps := 4000000) -implicitDefEqProofs -dsimp (disch := omega) only [↓AW_skip, ↓AW_ops, ↓AW_seq, ↓AW_cond, ↓AOps_nil, ↓AOps_pu, ↓AOps_call, on_some, extK_same, condB_f, ↓then_normal, pval, rd_mkS, rd_mkS0, Nat.reduceBEq, Nat.reduceLT, rd_C, put_mkS, beq_self_eq_true, eq_self, map_c, map_n, Nat.reduceAdd, Nat.reduceSub, bin_neq, if_true, decide_false, Bool.cond_true, Bool.cond_false, not_true_eq_false, h0]
  refine CallK.of (c_Values u hcu A) ?_
  have p1 := pre_app A [AObj.cells true [u]]
  have l1 := ld_one (get_new A (AObj.cells true [u]))
  have ho1 := ho.mono p1
  obtain ⟨y, A2, cS, p2, hy⟩ := c_Sorted l1 ho1 (by omega)
  simp (maxSteps := 4000000) -implicitDefEqProofs -dsimp (disch := omega) only [↓AOps_call, extK_app, rd_mkS, rd_mkS0, Nat.reduceBEq, Nat.reduceLT, put_mkS, beq_self_eq_true, map_c, map_n, Nat.reduceAdd, Nat.reduceSub, if_true, Bool.cond_true, Bool.cond_false]
  refine CallK.of cS ?_
  have pA := p1.trans p2
  have ho2 := ho.mono pA
  have hw2 := hw.mono pA
  by_cases hlen : os.length = ws.length
  case neg =>
    have hlen' : ¬ ((os.length : Int) = ws.length) := by omega
    simp (maxSteps := 4000000) -implicitDefEqProofs -dsimp (disch := omega) only [↓AW_ops, ↓AW_seq, ↓AW_cond, ↓AW_ret, ↓AOps_nil, ↓AOps_pu, ↓AOps_guard, on_some, extK_false, guardB_tf, skipS_some, condB_t, ↓then_normal, ↓then_ret, ↓FinR_ret, pval, rd_mkS, rd_mkS0, Nat.reduceBEq, Nat.reduceLT, rd_C, put_mkS, resV, resL, chkd, isAdr, bgot, cells_agg, partA, beq_self_eq_true, eq_self, List.getElem?_cons_zero, List.getElem?_cons_succ, List.drop_zero, List.drop_succ_cons, List.take_succ_cons, List.take_nil, List.length_cons, List.length_nil, Nat.reduceAdd, Nat.reduceSub, Nat.reduceLeDiff, Nat.zero_add, bin_neq, if_true, if_false, Bool.false_eq_true, decide_true, Bool.cond_true, Bool.cond_false, not_false_eq_true, ho2.len, hw2.ls.len, hlen']
    exact ⟨_, _, gc_all, LnR.no (lnE_1 h0 (fun h => hlen (by rw [h.1, hwl]))) (by decide) pA⟩
  have hlen' : (os.length : Int) = ws.length := by omega
  simp (maxSteps := 4000000) -implicitDefEqProofs -dsimp (disch := omega) only [↓AW_ops, ↓AW_seq, ↓AOps_nil, ↓AOps_pu, ↓AOps_call, ↓AOps_guard, on_some, extK_false, guardB_ff, ↓then_normal, pval, rd_mkS, rd_mkS0, Nat.reduceBEq, Nat.reduceLT, put_mkS, chkd, isAdr, bgot, cells_agg, partA, beq_self_eq_true, eq_self, List.getElem?_cons_zero, List.getElem?_cons_succ, List.drop_zero, List.drop_succ_cons, List.take_succ_cons, List.take_nil, map_c, map_n, List.length_cons, List.length_nil, Nat.reduceAdd, Nat.reduceSub, Nat.reduceLeDiff, Nat.zero_add, bin_neq, if_true, if_false, Bool.false_eq_true, decide_false, Bool.cond_true, Bool.cond_false, not_true_eq_false, ho2.len, hw2.ls.len, hlen']
  refine CallK.of (s78 hy (by rw [srt_len]; omega) ws.length) ?_
  by_cases hS : isS (ws.length : Int) (srt os)
  case neg =>
    simp (maxSteps := 4000000) -implicitDefEqProofs -dsimp (disch := omega) only [↓AW_ops, ↓AW_seq, ↓AW_cond, ↓AW_ret, ↓AOps_nil, ↓AOps_pu, ↓AOps_guard, on_some, extK_same, guardB_ff, condB_t, ↓then_normal, ↓then_ret, ↓FinR_ret, pval, rd_mkS, rd_mkS0, Nat.reduceBEq, Nat.reduceLT, rd_C, put_mkS, resV, resL, beq_self_eq_true, Nat.reduceAdd, Nat.reduceSub, if_true, if_false, Bool.false_eq_true, Bool.not_false, decide_false, Bool.cond_true, Bool.cond_false, hS]
    exact ⟨_, _, gc_all, LnR.no (lnE_1 h0 (fun h => hS (by have := srt_isS.2 h.2; rwa [hwl] at this))) (by decide) pA⟩
  have hO : isO (lists ws).length os := ⟨by rw [hwl]; exact hlen, by rw [hwl]; exact srt_isS.1 hS⟩
  simp (maxSteps := 4000000) -implicitDefEqProofs -dsimp (disch := omega) only [↓AW_skip, ↓AW_ops, ↓AW_seq, ↓AW_cond, ↓AOps_nil, ↓AOps_pu, ↓AOps_call, ↓AOps_guard, on_some, extK_same, guardB_ff, condB_f, ↓then_normal, pval, rd_mkS, rd_mkS0, Nat.reduceBEq, Nat.reduceLT, rd_C, put_mkS, chkd, bgot, partA, beq_self_eq_true, eq_self, List.getElem?_cons_zero, List.drop_zero, List.take_succ_cons, List.take_nil, map_c, map_n, List.length_cons, List.length_nil, Nat.reduceAdd, Nat.reduceSub, Nat.reduceLeDiff, Nat.reduceEqDiff, Nat.zero_add, if_true, if_false, Bool.false_eq_true, Bool.not_true, decide_true, Bool.cond_true, Bool.cond_false, hS]
  refine CallK.of (s63 hw2 (by omega)) ?_
  have p3 := pre_app A2 [AObj.cells true ((noG ws).flatMap Go.Eng.e1)]
  have g3 := get_new A2 (AObj.cells true ((noG ws).flatMap Go.Eng.e1))
  have n3 : A2.length < (A2 ++ [AObj.cells true ((noG ws).flatMap Go.Eng.e1)]).length := by simp
  generalize A2 ++ [AObj.cells true ((noG ws).flatMap Go.Eng.e1)] = A3 at *
  have hst : stA 3 (.ptr A3.length 0) (.agg [I P, v, .sl 1 A2.length 0 ws.length false]) (A3 ++ [AObj.cells true [I 0, .nilS, .nilS]]) = some (A3 ++ [AObj.cells true [I P, v, .sl 1 A2.length 0 ws.length false]]) := by
    simp [stA, AV.cells?, splice]
  simp (maxSteps := 4000000) -implicitDefEqProofs -dsimp (disch := omega) only [↓AW_ops, ↓AW_seq, ↓AW_block, ↓AOps_nil, ↓AOps_pu, ↓AOps_ha, on_some, extK_false, extK_app, ↓then_normal, pval, hval_st, hval_newv, rd_mkS, rd_mkS0, Nat.reduceBEq, Nat.reduceLT, rd_C, put_mkS, putS_none, ↓AW_toLoop, cells_agg, beq_self_eq_true, Option.map_some, Nat.reduceAdd, Nat.reduceSub, if_true, Bool.cond_true, Bool.cond_false, hst, ho.len]
  have p4 := pre_app A3 [AObj.cells true [I P, v, .sl 1 A2.length 0 ws.length false]]
  have g4 := get_new A3 (AObj.cells true [I P, v, .sl 1 A2.length 0 ws.length false])
  have n4 : A3.length < (A3 ++ [AObj.cells true [I P, v, .sl 1 A2.length 0 ws.length false]]).length := by simp
  have g3' := pre_get p4 g3
  have pB := pA.trans (p3.trans p4)
  generalize A3 ++ [AObj.cells true [I P, v, .sl 1 A2.length 0 ws.length false]] = B0 at *
  have hOL0 : OL 1 Go.Eng.e1 A2 B0 A2.length (.sl 1 A2.length 0 ws.length false) (lnL (lists ws) (os.take 0)) :=
    ⟨e1_len, p3.trans p4, Nat.le_refl _, by rw [g3']; simp [lnL, noG], false, by rw [lnL_len, hwl]⟩
  refine LoopK.byS (fun x : Nat × AHeap => x.1 ≤ os.length ∧ OL 1 Go.Eng.e1 A2 x.2 A2.length (.sl 1 A2.length 0 ws.length false) (lnL (lists ws) (os.take x.1)) ∧ x.2[A3.length]? = some (.cells true [I P, v, .sl 1 A2.length 0 ws.length false])) (fun x => [(1, u), (2, .agg [I P, v]), (8, .ptr A3.length 0), (36, u), (37, I os.length), (38, I x.1)]) (fun x => x.2) (fun x => os.length - x.1) (0, B0) ⟨by simp only; omega, hOL0, g4⟩ (by simp [Has, rd_mkS]) rfl ?_
  rintro ⟨j, H⟩ ⟨hj, hD, hbx⟩
  simp only at hj hD hbx
  have hwH := hw2.mono hD.pre
  have hoH := ho2.mono hD.pre
  have hgl : (lnL (lists ws) (os.take j)).length = ws.length := by rw [lnL_len, hwl]
  have lb3 : ldA 3 true (.ptr A3.length 0) H = some (.agg [I P, v, .sl 1 A2.length 0 ws.length false]) := by simp [ldA, partA, hbx]
  have lb1 : ldA 1 false (.ptr A3.length (0 + 2)) H = some (.sl 1 A2.length 0 ws.length false) := by simp [ldA, partA, hbx]
  by_cases hjl : j < os.length
  · obtain ⟨o, hoj⟩ : ∃ o, os[j]? = some o := ⟨_, List.getElem?_eq_getElem hjl⟩
    have hjl' : (j : Int) < os.length := by omega
    have hor := hO.2.1 o (List.mem_of_getElem? hoj)
    obtain ⟨k0, rfl⟩ : ∃ k0 : Nat, o = (k0 : Int) := ⟨o.toNat, by have := hor.1; omega⟩
    have hk0 : k0 < ws.length := by have := hor.2; omega
    obtain ⟨x, hx⟩ : ∃ x, ws[k0]? = some x := ⟨_, List.getElem?_eq_getElem hk0⟩
    have hxm := List.mem_of_getElem? hx
    have hxl := lst_at hx
    have hx40 := hs.2 x hxm
    have hxH := hwH.inn x hxm
    have hsucc := lnL_succ (ls := lists ws) hoj
    simp (maxSteps := 4000000) -implicitDefEqProofs -dsimp (disch := omega) only [↓AW_skip, ↓AW_ops, ↓AW_seq, ↓AW_cond, ↓AW_block, ↓AOps_nil, ↓AOps_pu, ↓AOps_ld, ↓AOps_call, on_some, condB_t, ↓then_normal, pval, lval, rd_mkS, rd_mkS0, Nat.reduceBEq, Nat.reduceLT, put_mkS, chkd, isAdr, bgot, cells_agg, partA, beq_self_eq_true, eq_self, List.getElem?_cons_zero, List.getElem?_cons_succ, List.drop_zero, List.drop_succ_cons, List.take_succ_cons, List.take_nil, map_c, map_n, List.length_cons, List.length_nil, Nat.reduceAdd, Nat.reduceLeDiff, Nat.zero_add, bin_lss, if_true, if_false, Bool.false_eq_true, decide_true, Bool.cond_true, Bool.cond_false, Go.Eng.e1, hjl', hoH.idx hjl, hoH.ld0 hoj 1 false (by decide), hwH.ls.idx hk0, hwH.ls.ld0 hx 1 false (by decide), e0]
    refine CallK.of (c_IndexFunc hxH (by omega) 88 [.ptr A3.length 0] (fun p => decide (p ∉ lnL (lists ws) (os.take j))) (fun p _ => s88 lb3 hD.ls (by omega) p)) ?_
    have hfr : fpos (fun p => decide (p ∉ lnL (lists ws) (os.take j))) x.2 = fr (lnL (lists ws) (os.take j)) (lst (lists ws) (k0 : Int)) := by rw [hxl]; rfl
    rw [hfr]
    by_cases hf : 0 ≤ fr (lnL (lists ws) (os.take j)) (lst (lists ws) (k0 : Int))
    · obtain ⟨k, p, e1', hk, hp, hpn, _⟩ := fr_some hf
      have hnew : lnL (lists ws) (os.take (j + 1)) = (lnL (lists ws) (os.take j)).set k0 p := by
        rw [hsucc, lnS, if_pos hf, e1', Int.toNat_natCast, Int.toNat_natCast, hp, Option.getD_some]
      rw [hxl] at hk hp
      have hk' : (0 : Int) ≤ (k : Int) := by omega
      have hix := hD.ls.idx (k := .i64) (i := k0) (by rw [hgl]; exact hk0)
      have hst2 := hD.st (i := k0) (by rw [hgl]; exact hk0) (I p) p rfl
      have hD2 := hD.set k0 p
      rw [← hnew] at hD2 hst2
      rw [e1']
      simp (maxSteps := 4000000) -implicitDefEqProofs -dsimp (disch := omega) only [↓AW_ops, ↓AW_seq, ↓AW_cond, ↓AOps_nil, ↓AOps_pu, ↓AOps_ld, ↓AOps_ha, on_some, extK_false, extK_same, condB_t, ↓then_normal, ↓inBlock_normal, pval, lval, hval_st, rd_mkS, rd_mkS0, Nat.reduceBEq, Nat.reduceLT, mkS_len, rd_C, put_mkS, putS_none, chkd, isAdr, bgot, cells_agg, partA, beq_self_eq_true, eq_self, List.getElem?_cons_zero, List.getElem?_cons_succ, List.drop_zero, List.drop_succ_cons, List.take_succ_cons, List.take_nil, Option.map_some, List.length_cons, List.length_nil, Nat.reduceAdd, Nat.reduceLeDiff, Nat.zero_add, bin_add, bin_geq, w64, if_true, if_false, Bool.false_eq_true, decide_true, Bool.cond_true, Bool.cond_false, Go.Eng.e1, true_and, hk', lb1, hwH.ls.idx hk0, hwH.ls.ld0 hx 1 false (by decide), e0, hxH.idx hk, hxH.ld0 hp 1 false (by decide), hix, hst2]
      exact ⟨(j + 1, _), ⟨hjl, hD2, by rw [List.getElem?_set_ne (by omega)]; exact hbx⟩, by simp [Has, rd_mkS], rfl, by simp only; omega⟩
    · have hnew : lnL (lists ws) (os.take (j + 1)) = lnL (lists ws) (os.take j) := by rw [hsucc, lnS, if_neg hf]
      simp (maxSteps := 4000000) -implicitDefEqProofs -dsimp (disch := omega) only [↓AW_skip, ↓AW_ops, ↓AW_seq, ↓AW_cond, ↓AOps_nil, ↓AOps_pu, on_some, extK_same, condB_f, ↓then_normal, ↓inBlock_normal, pval, rd_mkS, rd_mkS0, Nat.reduceBEq, Nat.reduceLT, mkS_len, rd_C, put_mkS, beq_self_eq_true, eq_self, bin_add, bin_geq, w64, if_true, decide_false, Bool.cond_true, Bool.cond_false, true_and, hf]
      exact ⟨(j + 1, H), ⟨hjl, by rw [hnew]; exact hD, hbx⟩, by simp [Has, rd_mkS], rfl, by simp only; omega⟩
  · have hjl' : ¬ ((j : Int) < os.length) := by omega
    rw [List.take_of_length_le (by omega)] at hD
    simp (maxSteps := 4000000) -implicitDefEqProofs -dsimp (disch := omega) only [↓AW_ops, ↓AW_seq, ↓AW_cond, ↓AW_exit, ↓AW_ret, ↓AOps_nil, ↓AOps_pu, ↓AOps_ld, on_some, condB_f, ↓then_normal, ↓then_exit, ↓inBlock_exit, ↓FinR_ret, pval, lval, rd_mkS, rd_mkS0, Nat.reduceBEq, Nat.reduceLT, rd_C, put_mkS, resV, resL, beq_self_eq_true, eq_self, Nat.zero_add, bin_lss, if_true, decide_false, Bool.cond_true, Bool.cond_false, hjl', lb1]
    exact ⟨_, _, gc_all, pA.trans hD.pre, fun h => absurd (lnE_0.2 ⟨h0, hO⟩) h, fun _ => ⟨_, rfl, hD.ls⟩⟩
end Go.Proofs.Ytlmbobbefgcolaa

namespace Go.Proofs.Ytlmbobbefgcolaa
open Go Go.Eng
end Go.Proofs.Ytlmbobbefgcolaa

namespace Go.Proofs.Ytlmbobbefgcolaa
open Go Go.Eng
theorem Ls_cells0 {α : Type} {es : Nat} {e : α → List AV} {A : AHeap} {u : AV} {xs : List α} (h : Ls es e A u xs) : u.cells? = some [u] := by
  rcases h.inv with ⟨rfl, _⟩ | ⟨n, off, full, rw, l, rfl, _⟩ <;> rfl
def tr (b : List Bool) (k : Nat) : Prop := b[k]? = some true
theorem tr_set {b : List Bool} {k j : Nat} (hk : k < b.length) : tr (b.set k true) j ↔ j = k ∨ tr b j := by
  unfold tr
  by_cases h : j = k
  · subst h
    rw [List.getElem?_set_self hk]
    simp
  · rw [List.getElem?_set_ne (Ne.symm h)]
    simp [h]
theorem tr_mono {b : List Bool} {k j : Nat} (hk : k < b.length) (h : tr b j) : tr (b.set k true) j := (tr_set hk).2 (.inr h)
theorem count_set {b : List Bool} {k : Nat} (h : b[k]? = some false) : (b.set k true).count false + 1 = b.count false := by
  have hk := (List.getElem?_eq_some_iff.1 h).1
  have he := (List.getElem?_eq_some_iff.1 h).2
  rw [List.count_set hk]
  have : 0 < b.count false := List.count_pos_iff.2 (he ▸ List.getElem_mem hk)
  rw [he]
  simp
  omega
/-- What is always so while one goes. -/
structure Wk (P : Int) (ls : List (List Int)) (g : List Int) (b : List Bool) : Prop where
  len : b.length = ls.length
  un : ∀ i, i < ls.length → has g i < 0 → tr b i
  le : ∀ T, Stuck ls g T → (∀ i, i < ls.length → has g i < 0 → T i) → ∀ i, i < ls.length → tr b i → T i
/-- Nothing new comes from one place of an owner. -/
def clp (ls : List (List Int)) (g : List Int) (b : List Bool) (i : Nat) (p : Int) : Prop := tr b i → ∀ h, h < ls.length → has g h = p → tr b h
theorem Wk.set {P : Int} {ls : List (List Int)} (hls : ∀ l ∈ ls, ∀ p ∈ l, inP P p) {g : List Int} (hg : Good P ls g) {b : List Bool} (h : Wk P ls g b) {i k : Nat} {p : Int} (hi : i < ls.length) (hk : k < ls.length) (hp : p ∈ lst ls i) (ht : tr b i) (hh : has g k = p) : Wk P ls g (b.set k true) := by
  have hkb : k < b.length := by rw [h.len]; exact hk
  refine ⟨by simp [h.len], fun j hj hn => tr_mono hkb (h.un j hj hn), fun T hT hu j hj hjt => ?_⟩
  rcases (tr_set hkb).1 hjt with rfl | hjt
  · obtain ⟨m, m1, m2, m3⟩ := hT i hi (h.le T hT hu i hi ht) p hp
    have : m = j := hg.inj m j m1 hk (by rw [m3]; exact (lst_in hls hp).1) (by rw [m3, hh])
    rw [← this]; exact m2
  · exact h.le T hT hu j hj hjt
def un0 (g : List Int) (n i : Nat) : List Bool := (List.range n).map (fun k => decide (k < i) && decide (has g k < 0))
theorem un0_len (g : List Int) (n i : Nat) : (un0 g n i).length = n := by simp [un0]
theorem un0_0 (g : List Int) (n : Nat) : un0 g n 0 = List.replicate n false := by
  unfold un0
  rw [List.map_congr_left (g := fun _ => false) (fun k _ => by simp)]
  induction n with
  | zero => rfl
  | succ n ih => rw [List.range_succ, List.map_append, ih, List.replicate_succ']; rfl
theorem un0_set (g : List Int) {n i : Nat} (hi : i < n) : (un0 g n i).set i (decide (has g i < 0)) = un0 g n (i + 1) := by
  refine List.ext_getElem? (fun k => ?_)
  by_cases hk : k = i
  · subst hk
    rw [List.getElem?_set_self (by rw [un0_len]; exact hi)]
    unfold un0
    rw [List.getElem?_map, List.getElem?_range hi]
    simp
  · rw [List.getElem?_set_ne (Ne.symm hk)]
    unfold un0
    rw [List.getElem?_map, List.getElem?_map]
    by_cases hkn : k < n
    · rw [List.getElem?_range hkn]
      simp only [Option.map_some, Option.some.injEq]
      congr 1
      rw [decide_eq_decide]
      omega
    · rw [List.getElem?_eq_none (by simp; omega)]
      rfl
theorem un0_tr (g : List Int) {n k : Nat} : tr (un0 g n n) k ↔ k < n ∧ has g k < 0 := by
  unfold tr un0
  rw [List.getElem?_map]
  by_cases hk : k < n
  · rw [List.getElem?_range hk]
    simp [hk]
  · rw [List.getElem?_eq_none (by simp; omega)]
    simp [hk]
def onB (b : List Bool) (p : Int) : Bool := (b[p.toNat]?).getD false
theorem onB_tr {b : List Bool} {k : Nat} : onB b (k : Int) = true ↔ tr b k := by
  unfold onB tr
  rw [Int.toNat_natCast]
  cases b[k]? <;> simp
set_option maxRecDepth 100000 in
set_option maxHeartbeats 2000000 in
theorem s80 {P : Int} {ws : List (AV × List Int)} {v : AV} {A : AHeap} (hv : Val P (lists ws)) (hw : LL A v ws) :
    ∃ r H', ACalls Try.prog 80 [.agg [I P, v]] A r H' ∧ ∃ os, r = outV 1 A os.length ∧ H' = outH A (os.flatMap e1) os.length ∧ isS ws.length os ∧ Clo P (lists ws) (best P ws) (inS os) := by
  refine acallsR hmix Try.func80 (by kernel_rfl) t80 _ 1 rfl (by decide) ?_
  have hn : ws.length ≤ 7 := by simpa using hv.n
  have hlsl : (lists ws).length = ws.length := by simp
  have hls : ∀ l ∈ lists ws, ∀ p ∈ l, inP P p := fun l hl => (hv.l l hl).1
  have hgood := best_good hv
  have hgl := best_len hv
  dsimp only [m80]
  simp (maxSteps := 4000000) -implicitDefEqProofs -dsimp (disch := omega) only [↓AW_ops, ↓AW_seq, ↓AOps_nil, ↓AOps_pu, ↓AOps_call, on_some, ↓then_normal, pval, rd_S, rd_C, put_S, chkd, bgot, cells_agg, partA, eq_self, List.replicate_succ, List.replicate_zero, List.set_cons_zero, List.set_cons_succ, List.getElem?_cons_zero, List.getElem?_cons_succ, List.drop_zero, List.take_succ_cons, List.take_nil, Option.getD_some, map_c, map_n, List.length_cons, List.length_nil, Nat.reduceAdd, Nat.reduceSub, Nat.reduceLeDiff, Nat.reduceEqDiff, Nat.zero_add, List.cons_append, List.nil_append, if_true, if_false]
  refine CallK.of (s63 hw (by omega)) ?_
  simp (maxSteps := 4000000) -implicitDefEqProofs -dsimp (disch := omega) only [↓AOps_call, extK_app, rd_S, put_S, List.replicate_succ, List.replicate_zero, List.set_cons_zero, List.set_cons_succ, List.getElem?_cons_zero, List.getElem?_cons_succ, Option.getD_some, map_c, map_n, Nat.reduceSub, List.cons_append, List.nil_append]
  refine CallK.of (s62n hv hw) ?_
  have hG := L1_new (A ++ [AObj.cells true ((noG ws).flatMap Go.Eng.e1)]) (best P ws) ws.length hgl
  have p1 := (pre_app A [AObj.cells true ((noG ws).flatMap Go.Eng.e1)]).trans (pre_app _ [AObj.cells true ((best P ws).flatMap Go.Eng.e1)])
  generalize AV.sl 1 (A ++ [AObj.cells true ((noG ws).flatMap Go.Eng.e1)]).length 0 ws.length false = gv at *
  generalize A ++ [AObj.cells true ((noG ws).flatMap Go.Eng.e1)] ++ [AObj.cells true ((best P ws).flatMap Go.Eng.e1)] = C at *
  have hwC := hw.mono p1
  have hgc := L1_cells hG
  have hvc := Ls_cells0 hw.ls
  have hnl : (0 : Int) ≤ (ws.length : Int) := by omega
  have hnm : (ws.length : Int) ≤ (lim : Int) := by simp [lim]; omega
  have hglen : lenA gv = some (I (ws.length : Int)) := by rw [hG.len, hgl]
  simp (maxSteps := 4000000) -implicitDefEqProofs -dsimp (disch := omega) only [↓AW_ops, ↓AW_seq, ↓AW_block, ↓AOps_nil, ↓AOps_pu, ↓AOps_ha, on_some, extK_false, extK_app, ↓then_normal, pval, hval_mks, rd_S, rd_C, put_S, ↓AW_toLoop, chkd, isAdr, bput, bgot, cells_agg, splice, partA, beq_self_eq_true, eq_self, List.replicate_succ, List.replicate_zero, List.set_cons_zero, List.set_cons_succ, List.getElem?_cons_zero, List.getElem?_cons_succ, List.drop_zero, List.drop_succ_cons, List.drop_nil, List.take_zero, List.take_succ_cons, List.take_nil, Option.getD_some, List.length_cons, List.length_nil, Nat.reduceAdd, Nat.reduceSub, Nat.reduceLeDiff, Nat.zero_add, List.cons_append, List.nil_append, List.append_nil, if_true, if_false, Bool.false_eq_true, and_true, ne_eq, not_true_eq_false, hw.ls.len, hnl, hnm, Int.le_refl, Int.toNat_natCast, hglen]
  rw [repl_false]
  have hOL : ∀ b : List Bool, b.length = ws.length → OL 1 eb C (C ++ [.cells true (b.flatMap eb)]) C.length (.sl 1 C.length 0 ws.length true) b := fun b hb => by
    have := OL.new_mk eb_len C b true
    rwa [hb] at this
  generalize hvv : AV.sl 1 C.length 0 ws.length true = vv at *
  have hst : ∀ (b : List Bool) (k : Nat) (x : Bool), b.length = ws.length → k < ws.length → stA 1 (.ptr (nm vv) (of vv + k * 1)) (B x) (C ++ [.cells true (b.flatMap eb)]) = some (C ++ [.cells true ((b.set k x).flatMap eb)]) := fun b k x hb hk => by
    have := (hOL b hb).st (i := k) (by rw [hb]; exact hk) (B x) x rfl
    rwa [set_new] at this
  have hCB : ∀ b : List Bool, C <+: C ++ [.cells true (b.flatMap eb)] := fun b => pre_app _ _
  refine LoopK.by 89 (fun i : Nat => i ≤ ws.length) (fun i => [(1, .agg [I P, v]), (3, .agg [I P, v, gv]), (4, vv), (23, gv), (24, I ws.length), (25, I i)]) (fun i => C ++ [.cells true ((un0 (best P ws) ws.length i).flatMap eb)]) (fun i => ws.length - i) 0 (by omega) rfl (by simp [Has, rd_s]) (by rw [un0_0]) ?_
  intro i hi
  have hGb := hG.mono (hCB (un0 (best P ws) ws.length i))
  by_cases hlt : i < ws.length
  · have hlt' : (i : Int) < ws.length := by omega
    obtain ⟨z, hz⟩ : ∃ z, (best P ws)[i]? = some z := ⟨_, List.getElem?_eq_getElem (by omega)⟩
    have hil : i < (best P ws).length := by omega
    have hiu : i < (un0 (best P ws) ws.length i).length := by rw [un0_len]; exact hlt
    have hset := un0_set (best P ws) hlt
    rw [has_get hz] at hset
    have hs1 := hst _ i (decide (z < 0)) (un0_len (best P ws) ws.length i) hlt
    rw [hset] at hs1
    simp (maxSteps := 4000000) -implicitDefEqProofs -dsimp (disch := omega) only [↓AW_skip, ↓AW_ops, ↓AW_seq, ↓AW_cond, ↓AW_block, ↓AOps_nil, ↓AOps_pu, ↓AOps_ld, ↓AOps_ha, on_some, extK_false, condB_t, ↓then_normal, ↓inBlock_normal, pval, lval, hval_st, rd_S, rd_C, put_S, putS_none, partA, eq_self, mk, List.foldl_cons, List.foldl_nil, List.replicate_succ, List.replicate_zero, List.set_cons_zero, List.set_cons_succ, List.getElem?_cons_zero, List.getElem?_cons_succ, List.drop_zero, List.take_succ_cons, List.take_nil, Option.getD_some, Option.map_some, List.length_cons, List.length_nil, Nat.reduceAdd, Nat.reduceLeDiff, Nat.zero_add, bin_add, bin_lss, w64, if_true, if_false, Bool.false_eq_true, decide_true, Go.Eng.e1, true_and, hlt', hGb.idx hil, hGb.ld0 hz 1 false (by decide), (hOL _ (un0_len _ _ i)).ls.idx hiu, hs1]
    exact ⟨i + 1, hlt, by simp [Has, rd_s], rfl, by omega⟩
  · have hlt' : ¬ ((i : Int) < ws.length) := by omega
    have hie : i = ws.length := by omega
    subst hie
    simp (maxSteps := 4000000) -implicitDefEqProofs -dsimp (disch := omega) only [↓AW_ops, ↓AW_seq, ↓AW_cond, ↓AW_block, ↓AW_exit, ↓AOps_nil, ↓AOps_pu, on_some, condB_f, ↓then_normal, ↓then_exit, ↓inBlock_exit, pval, rd_S, rd_C, put_S, ↓AW_toLoop, eq_self, mk, List.foldl_cons, List.foldl_nil, List.replicate_succ, List.replicate_zero, List.set_cons_zero, List.set_cons_succ, List.getElem?_cons_zero, List.getElem?_cons_succ, Option.getD_some, bin_lss, if_true, decide_false, hlt']
    have hwk0 : Wk P (lists ws) (best P ws) (un0 (best P ws) ws.length ws.length) := ⟨by rw [un0_len, hlsl], fun i hi hn => (un0_tr _).2 ⟨by rw [← hlsl]; exact hi, hn⟩, fun T _ hu i hi ht => hu i hi ((un0_tr _).1 ht).2⟩
    refine LoopK.by 89 (fun x : Bool × List Bool => Wk P (lists ws) (best P ws) x.2 ∧ (x.1 = false → ∀ i, i < ws.length → ∀ p ∈ lst (lists ws) i, clp (lists ws) (best P ws) x.2 i p)) (fun x => [(1, .agg [I P, v]), (3, .agg [I P, v, gv]), (4, vv), (7, B x.1)]) (fun x => C ++ [.cells true (x.2.flatMap eb)]) (fun x => 2 * x.2.count false + if x.1 then 1 else 0) (true, un0 (best P ws) ws.length ws.length) ⟨hwk0, by simp⟩ rfl (by simp [Has, rd_s]) rfl ?_
    rintro ⟨ag, b0⟩ ⟨hwk, hcl⟩
    simp only at hwk hcl
    have hbl : b0.length = ws.length := by rw [hwk.len, hlsl]
    cases ag with
    | false =>
      have hcl := hcl rfl
      have hOb := (hOL b0 hbl).ls
      have hlen : lenA vv = some (I (ws.length : Int)) := by rw [hOb.len, hbl]
      simp (maxSteps := 4000000) -implicitDefEqProofs -dsimp (disch := omega) only [↓AW_ops, ↓AW_seq, ↓AW_cond, ↓AW_block, ↓AW_exit, ↓AOps_nil, ↓AOps_pu, on_some, condB_f, ↓then_normal, ↓then_exit, ↓inBlock_exit, pval, rd_S, rd_C, put_S, ↓AW_toLoop, eq_self, mk, List.foldl_cons, List.foldl_nil, List.replicate_succ, List.replicate_zero, List.set_cons_zero, List.set_cons_succ, List.getElem?_cons_zero, List.getElem?_cons_succ, Option.getD_some, if_true, hlen]
      refine LoopK.by 89 (fun x : Nat × AV × AHeap => x.1 ≤ ws.length ∧ AccL 1 e1 (C ++ [.cells true (b0.flatMap eb)]) x.2.2 x.2.1 ((nums x.1).filter (onB b0))) (fun x => [(4, vv), (13, x.2.1), (75, I ws.length), (76, I x.1)]) (fun x => x.2.2) (fun x => ws.length - x.1) (0, .nilS, C ++ [.cells true (b0.flatMap eb)]) ⟨by simp only; omega, AccL.nil (List.prefix_refl _)⟩ rfl (by simp [Has, rd_s]) rfl ?_
      rintro ⟨k, o, H⟩ ⟨hk, ho⟩
      simp only at hk ho
      by_cases hltk : k < ws.length
      · have hltk' : (k : Int) < ws.length := by omega
        have hkb : k < b0.length := by omega
        obtain ⟨x, hx⟩ : ∃ x, b0[k]? = some x := ⟨_, List.getElem?_eq_getElem hkb⟩
        have hO2 := hOb.mono ho.pre
        have hle := List.length_filter_le (onB b0) (nums k)
        have hnk : (nums k).length = k := by simp [nums]
        have hon : onB b0 (k : Int) = x := by unfold onB; rw [Int.toNat_natCast, hx]; rfl
        cases x with
        | true =>
          obtain ⟨v4, A4, happ, h4⟩ := ho.push e1_len (k : Int) (by simp [lim]; omega)
          simp only [Go.Eng.e1] at happ
          simp (maxSteps := 4000000) -implicitDefEqProofs -dsimp (disch := omega) only [↓AW_skip, ↓AW_ops, ↓AW_seq, ↓AW_cond, ↓AW_block, ↓AOps_nil, ↓AOps_pu, ↓AOps_ld, ↓AOps_ha, on_some, extK_false, extK_app, condB_t, ↓then_normal, ↓inBlock_normal, pval, lval, hval_blds, hval_app, rd_S, rd_C, put_S, cells_int, splice, partA, fillA, repl, eq_self, mk, List.foldl_cons, List.foldl_nil, List.replicate_succ, List.replicate_zero, List.set_cons_zero, List.set_cons_succ, List.getElem?_cons_zero, List.getElem?_cons_succ, List.drop_zero, List.drop_succ_cons, List.drop_nil, List.take_zero, List.take_succ_cons, List.take_nil, Option.getD_some, map_c, map_n, List.length_cons, List.length_nil, Nat.reduceAdd, Nat.reduceLeDiff, Nat.zero_add, List.nil_append, List.append_nil, bin_add, bin_lss, w64, if_true, if_false, Bool.false_eq_true, decide_true, true_and, and_true, hltk', hO2.idx hkb, hO2.ld0 hx 1 false (by decide), eb, happ]
          refine ⟨(k + 1, v4, A4), ⟨hltk, ?_⟩, by simp [Has, rd_s], rfl, by simp only; omega⟩
          simp only
          rw [nums_succ, List.filter_append]
          simp only [List.filter_cons, List.filter_nil, hon, if_true]
          exact h4
        | false =>
          simp (maxSteps := 4000000) -implicitDefEqProofs -dsimp (disch := omega) only [↓AW_skip, ↓AW_ops, ↓AW_seq, ↓AW_cond, ↓AW_block, ↓AOps_nil, ↓AOps_pu, ↓AOps_ld, on_some, condB_t, condB_f, ↓then_normal, ↓inBlock_normal, pval, lval, rd_S, rd_C, put_S, partA, eq_self, mk, List.foldl_cons, List.foldl_nil, List.replicate_succ, List.replicate_zero, List.set_cons_zero, List.set_cons_succ, List.getElem?_cons_zero, List.getElem?_cons_succ, List.drop_zero, List.take_succ_cons, List.take_nil, Option.getD_some, List.length_cons, List.length_nil, Nat.reduceAdd, Nat.reduceLeDiff, Nat.zero_add, bin_add, bin_lss, w64, if_true, if_false, Bool.false_eq_true, decide_true, true_and, hltk', hO2.idx hkb, hO2.ld0 hx 1 false (by decide), eb]
          refine ⟨(k + 1, o, H), ⟨hltk, ?_⟩, by simp [Has, rd_s], rfl, by simp only; omega⟩
          simp only
          rw [nums_succ, List.filter_append]
          simp only [List.filter_cons, List.filter_nil, hon, Bool.false_eq_true, if_false, List.append_nil]
          exact ho
      · have hltk' : ¬ ((k : Int) < ws.length) := by omega
        have hke : k = ws.length := by omega
        subst hke
        simp (maxSteps := 4000000) -implicitDefEqProofs -dsimp (disch := omega) only [↓AW_ops, ↓AW_seq, ↓AW_cond, ↓AW_exit, ↓AW_ret, ↓AOps_nil, ↓AOps_pu, on_some, condB_f, ↓then_normal, ↓then_exit, ↓inBlock_exit, ↓FinR_ret, pval, rd_S, put_S, resV, resL, eq_self, mk, List.foldl_cons, List.foldl_nil, List.replicate_succ, List.replicate_zero, List.set_cons_zero, List.set_cons_succ, List.getElem?_cons_zero, List.getElem?_cons_succ, Option.getD_some, bin_lss, if_true, decide_false, hltk']
        have hin : ∀ j : Nat, j < ws.length → (inS ((nums ws.length).filter (onB b0)) j ↔ tr b0 j) := fun j hj => by
          unfold inS
          rw [List.mem_filter, onB_tr, mem_nums]
          exact ⟨fun h => h.2, fun h => ⟨⟨by omega, by omega⟩, h⟩⟩
        refine ⟨_, _, (AccL_base0 (p1.trans (hCB b0)) ho).gc flat_e1, _, rfl, rfl, filter_isS _ _, ⟨fun j hj hn => ?_, fun T hT hu j hj hjt => ?_, fun j hj hjt p hp h hh hhp => ?_⟩⟩
        · rw [hlsl] at hj
          exact (hin j hj).2 (hwk.un j (by rw [hlsl]; exact hj) hn)
        · rw [hlsl] at hj
          exact hwk.le T hT hu j (by rw [hlsl]; exact hj) ((hin j hj).1 hjt)
        · rw [hlsl] at hj hh
          exact (hin h hh).2 (hcl j hj p hp ((hin j hj).1 hjt) h (by rw [hlsl]; exact hh) hhp)
    | true =>
      simp (maxSteps := 4000000) -implicitDefEqProofs -dsimp (disch := omega) only [↓AW_skip, ↓AW_ops, ↓AW_seq, ↓AW_cond, ↓AW_block, ↓AOps_nil, ↓AOps_pu, on_some, condB_t, ↓then_normal, pval, rd_S, rd_C, put_S, ↓AW_toLoop, chkd, isAdr, bgot, cells_agg, partA, eq_self, mk, List.foldl_cons, List.foldl_nil, List.replicate_succ, List.replicate_zero, List.set_cons_zero, List.set_cons_succ, List.getElem?_cons_zero, List.getElem?_cons_succ, List.drop_zero, List.drop_succ_cons, List.take_succ_cons, List.take_nil, Option.getD_some, List.length_cons, List.length_nil, Nat.reduceAdd, Nat.reduceLeDiff, Nat.zero_add, if_true, if_false, Bool.false_eq_true, hw.ls.len]
      refine LoopK.by 89 (fun x : Nat × Bool × List Bool => x.1 ≤ ws.length ∧ Wk P (lists ws) (best P ws) x.2.2 ∧ (x.2.1 = false → ∀ i, i < x.1 → ∀ p ∈ lst (lists ws) i, clp (lists ws) (best P ws) x.2.2 i p) ∧ x.2.2.count false + (if x.2.1 then 1 else 0) ≤ b0.count false) (fun x => [(1, .agg [I P, v]), (3, .agg [I P, v, gv]), (4, vv), (7, B x.2.1), (38, v), (39, I ws.length), (40, I x.1)]) (fun x => C ++ [.cells true (x.2.2.flatMap eb)]) (fun x => ws.length - x.1) (0, false, b0) ⟨by simp only; omega, hwk, fun _ i hi => by omega, by simp⟩ rfl (by simp [Has, rd_s]) rfl ?_
      rintro ⟨i, ag, b1⟩ ⟨hi, hwk1, hcl1, hct⟩
      simp only at hi hwk1 hcl1 hct
      by_cases hlti : i < ws.length
      · have hlti' : (i : Int) < ws.length := by omega
        obtain ⟨x, hx⟩ : ∃ x, ws[i]? = some x := ⟨_, List.getElem?_eq_getElem hlti⟩
        have hxl := lst_at hx
        have hxm := List.mem_of_getElem? hx
        have hwB := hwC.mono (hCB b1)
        have hxi := hwC.inn x hxm
        have hx2 : x.2.length ≤ 7 := by
          have h1 := hv.len (l := x.2) (List.mem_map.2 ⟨x, hxm, rfl⟩)
          have := hv.hP
          omega
        simp (maxSteps := 4000000) -implicitDefEqProofs -dsimp (disch := omega) only [↓AW_skip, ↓AW_ops, ↓AW_seq, ↓AW_cond, ↓AW_block, ↓AOps_nil, ↓AOps_pu, ↓AOps_ld, on_some, condB_t, ↓then_normal, pval, lval, rd_S, rd_C, put_S, ↓AW_toLoop, partA, eq_self, mk, List.foldl_cons, List.foldl_nil, List.replicate_succ, List.replicate_zero, List.set_cons_zero, List.set_cons_succ, List.getElem?_cons_zero, List.getElem?_cons_succ, List.drop_zero, List.take_succ_cons, List.take_nil, Option.getD_some, List.length_cons, List.length_nil, Nat.reduceLeDiff, Nat.zero_add, bin_lss, if_true, if_false, Bool.false_eq_true, decide_true, hlti', hwB.ls.idx hlti, hwB.ls.ld0 hx 1 false (by decide), e0, hxi.len]
        refine LoopK.by 89 (fun y : Nat × Bool × List Bool => y.1 ≤ x.2.length ∧ Wk P (lists ws) (best P ws) y.2.2 ∧ (y.2.1 = false → (∀ i', i' < i → ∀ p ∈ lst (lists ws) i', clp (lists ws) (best P ws) y.2.2 i' p) ∧ ∀ p ∈ x.2.take y.1, clp (lists ws) (best P ws) y.2.2 i p) ∧ y.2.2.count false + (if y.2.1 then 1 else 0) ≤ b0.count false) (fun y => [(1, .agg [I P, v]), (3, .agg [I P, v, gv]), (4, vv), (7, B y.2.1), (8, I i), (38, v), (39, I ws.length), (40, I i), (45, x.1), (46, I x.2.length), (47, I y.1)]) (fun y => C ++ [.cells true (y.2.2.flatMap eb)]) (fun y => x.2.length - y.1) (0, ag, b1) ⟨by simp only; omega, hwk1, fun h => ⟨hcl1 h, by simp⟩, hct⟩ rfl (by simp [Has, rd_s]) rfl ?_
        rintro ⟨j, ag2, b2⟩ ⟨hj, hwk2, hcl2, hct2⟩
        simp only at hj hwk2 hcl2 hct2
        have hb2l : b2.length = ws.length := by rw [hwk2.len, hlsl]
        have hO2 := (hOL b2 hb2l).ls
        have hxB := hxi.mono (hCB b2)
        have hGB := hG.mono (hCB b2)
        by_cases hltj : j < x.2.length
        · have hltj' : (j : Int) < x.2.length := by omega
          obtain ⟨p, hp⟩ : ∃ p, x.2[j]? = some p := ⟨_, List.getElem?_eq_getElem hltj⟩
          have hpl : p ∈ lst (lists ws) i := by rw [hxl]; exact List.mem_of_getElem? hp
          have hpin := lst_in hls hpl
          have hib : i < b2.length := by omega
          obtain ⟨bi, hbi⟩ : ∃ bi, b2[i]? = some bi := ⟨_, List.getElem?_eq_getElem hib⟩
          have h89 := s89 (P := P) (v := v) hGB (by omega) p
          have keep : (clp (lists ws) (best P ws) b2 i p) → ∃ y : Nat × Bool × List Bool, (y.1 ≤ x.2.length ∧ Wk P (lists ws) (best P ws) y.2.2 ∧ (y.2.1 = false → (∀ i', i' < i → ∀ p ∈ lst (lists ws) i', clp (lists ws) (best P ws) y.2.2 i' p) ∧ ∀ p ∈ x.2.take y.1, clp (lists ws) (best P ws) y.2.2 i p) ∧ y.2.2.count false + (if y.2.1 then 1 else 0) ≤ b0.count false) ∧ y = (j + 1, ag2, b2) := fun hc => by
            refine ⟨(j + 1, ag2, b2), ⟨hltj, hwk2, fun h => ⟨(hcl2 h).1, fun q hq => ?_⟩, hct2⟩, rfl⟩
            simp only at hq
            rw [List.take_add_one, hp] at hq
            rcases List.mem_append.1 hq with hq | hq
            · exact (hcl2 h).2 q hq
            · have : q = p := by simpa using hq
              rw [this]; exact hc
          simp (maxSteps := 4000000) -implicitDefEqProofs -dsimp (disch := omega) only [↓AW_skip, ↓AW_ops, ↓AW_seq, ↓AW_cond, ↓AW_block, ↓AOps_nil, ↓AOps_pu, ↓AOps_ld, ↓AOps_call, on_some, condB_t, ↓then_normal, pval, lval, rd_S, put_S, chkd, bgot, partA, eq_self, mk, List.foldl_cons, List.foldl_nil, List.replicate_succ, List.replicate_zero, List.set_cons_zero, List.set_cons_succ, List.getElem?_cons_zero, List.getElem?_cons_succ, List.drop_zero, List.take_succ_cons, List.take_nil, Option.getD_some, map_c, map_n, List.length_cons, List.length_nil, Nat.reduceAdd, Nat.reduceLeDiff, Nat.reduceEqDiff, Nat.zero_add, bin_lss, if_true, if_false, Bool.false_eq_true, decide_true, Go.Eng.e1, hltj', hxB.idx hltj, hxB.ld0 hp 1 false (by decide)]
          cases bi with
          | false =>
            obtain ⟨y, hy, hye⟩ := keep (fun ht => by unfold tr at ht; rw [hbi] at ht; cases ht)
            refine CallK.of h89 ?_
            simp (maxSteps := 4000000) -implicitDefEqProofs -dsimp (disch := omega) only [↓AW_skip, ↓AW_ops, ↓AW_seq, ↓AW_cond, ↓AOps_nil, ↓AOps_pu, ↓AOps_ld, ↓AOps_guard, on_some, extK_same, guardB_ft, skipS_some, condB_f, ↓then_normal, ↓inBlock_normal, pval, lval, rd_S, rd_C, put_S, partA, eq_self, mk, List.foldl_cons, List.foldl_nil, List.replicate_succ, List.replicate_zero, List.set_cons_zero, List.set_cons_succ, List.getElem?_cons_zero, List.getElem?_cons_succ, List.drop_zero, List.take_succ_cons, List.take_nil, Option.getD_some, List.length_cons, List.length_nil, Nat.reduceAdd, Nat.reduceLeDiff, Nat.zero_add, bin_add, w64, if_true, if_false, Bool.false_eq_true, true_and, hO2.idx hib, hO2.ld0 hbi 1 false (by decide), eb]
            exact ⟨y, hy, by simp [Has, rd_s, hye], by rw [hye], by rw [hye]; simp only; omega⟩
          | true =>
            have htb : tr b2 i := hbi
            by_cases hneg : fpos (fun y => decide (p = y)) (best P ws) < 0
            · have hnm2 := fpos_neg hneg
              obtain ⟨y, hy, hye⟩ := keep (fun _ h hh hhp => by
                have := has_mem (g := best P ws) (k := h) (by rw [hgl, ← hlsl]; exact hh)
                rw [hhp] at this
                exact absurd this hnm2)
              have hneg' : ¬ (0 : Int) ≤ fpos (fun y => decide (p = y)) (best P ws) := by omega
              refine CallK.of h89 ?_
              simp (maxSteps := 4000000) -implicitDefEqProofs -dsimp (disch := omega) only [↓AW_skip, ↓AW_ops, ↓AW_seq, ↓AW_cond, ↓AOps_nil, ↓AOps_pu, ↓AOps_ld, ↓AOps_guard, on_some, extK_same, guardB_tt, guardB_ft, skipS_some, condB_f, ↓then_normal, ↓inBlock_normal, pval, lval, rd_S, rd_C, put_S, partA, eq_self, mk, List.foldl_cons, List.foldl_nil, List.replicate_succ, List.replicate_zero, List.set_cons_zero, List.set_cons_succ, List.getElem?_cons_zero, List.getElem?_cons_succ, List.drop_zero, List.take_succ_cons, List.take_nil, Option.getD_some, List.length_cons, List.length_nil, Nat.reduceAdd, Nat.reduceLeDiff, Nat.zero_add, bin_add, bin_geq, w64, if_true, if_false, Bool.false_eq_true, decide_false, true_and, hO2.idx hib, hO2.ld0 hbi 1 false (by decide), eb, hneg']
              exact ⟨y, hy, by simp [Has, rd_s, hye], by rw [hye], by rw [hye]; simp only; omega⟩
            · obtain ⟨k, hk1, hk2, hk3⟩ := fpos_get hneg
              rw [hk2] at h89
              rw [hgl] at hk1
              have hkb : k < b2.length := by omega
              have hk0 : (0 : Int) ≤ (k : Int) := by omega
              obtain ⟨bk, hbk⟩ : ∃ bk, b2[k]? = some bk := ⟨_, List.getElem?_eq_getElem hkb⟩
              have huniq : ∀ h, h < (lists ws).length → has (best P ws) h = p → h = k := fun h hh hhp => hgood.inj h k hh (by rw [hlsl]; exact hk1) (by rw [hhp]; exact hpin.1) (by rw [hhp, hk3])
              cases bk with
              | true =>
                obtain ⟨y, hy, hye⟩ := keep (fun _ h hh hhp => by rw [huniq h hh hhp]; exact hbk)
                refine CallK.of h89 ?_
                simp (maxSteps := 4000000) -implicitDefEqProofs -dsimp (disch := omega) only [↓AW_skip, ↓AW_ops, ↓AW_seq, ↓AW_cond, ↓AOps_nil, ↓AOps_pu, ↓AOps_ld, ↓AOps_guard, on_some, extK_same, guardB_tt, condB_f, ↓then_normal, ↓inBlock_normal, pval, lval, rd_S, rd_C, put_S, partA, eq_self, mk, List.foldl_cons, List.foldl_nil, List.replicate_succ, List.replicate_zero, List.set_cons_zero, List.set_cons_succ, List.getElem?_cons_zero, List.getElem?_cons_succ, List.drop_zero, List.take_succ_cons, List.take_nil, Option.getD_some, List.length_cons, List.length_nil, Nat.reduceAdd, Nat.reduceLeDiff, Nat.zero_add, bin_add, bin_geq, w64, if_true, if_false, Bool.false_eq_true, Bool.not_true, decide_true, true_and, hO2.idx hib, hO2.ld0 hbi 1 false (by decide), eb, hk0, hO2.idx hkb, hO2.ld0 hbk 1 false (by decide)]
                exact ⟨y, hy, by simp [Has, rd_s, hye], by rw [hye], by rw [hye]; simp only; omega⟩
              | false =>
                have hs2 := hst b2 k true hb2l hk1
                have hcs := count_set hbk
                refine CallK.of h89 ?_
                simp (maxSteps := 4000000) -implicitDefEqProofs -dsimp (disch := omega) only [↓AW_ops, ↓AW_seq, ↓AW_cond, ↓AOps_nil, ↓AOps_pu, ↓AOps_ld, ↓AOps_ha, ↓AOps_guard, on_some, extK_false, extK_same, guardB_tt, condB_t, ↓then_normal, ↓inBlock_normal, pval, lval, hval_st, rd_S, rd_C, put_S, putS_none, partA, eq_self, mk, List.foldl_cons, List.foldl_nil, List.replicate_succ, List.replicate_zero, List.set_cons_zero, List.set_cons_succ, List.getElem?_cons_zero, List.getElem?_cons_succ, List.drop_zero, List.take_succ_cons, List.take_nil, Option.getD_some, Option.map_some, List.length_cons, List.length_nil, Nat.reduceAdd, Nat.reduceLeDiff, Nat.zero_add, bin_add, bin_geq, w64, if_true, if_false, Bool.false_eq_true, Bool.not_false, decide_true, true_and, hO2.idx hib, hO2.ld0 hbi 1 false (by decide), eb, hk0, hO2.idx hkb, hO2.ld0 hbk 1 false (by decide), hs2]
                refine ⟨(j + 1, true, b2.set k true), ⟨hltj, hwk2.set hls hgood (by rw [hlsl]; exact hlti) (by rw [hlsl]; exact hk1) hpl htb hk3, by simp, ?_⟩, by simp [Has, rd_s], rfl, by simp only; omega⟩
                simp only
                split at hct2 <;> simp <;> omega
        · have hltj' : ¬ ((j : Int) < x.2.length) := by omega
          rw [List.take_of_length_le (by omega)] at hcl2
          simp (maxSteps := 4000000) -implicitDefEqProofs -dsimp (disch := omega) only [↓AW_ops, ↓AW_seq, ↓AW_cond, ↓AW_exit, ↓AOps_nil, ↓AOps_pu, on_some, condB_f, ↓then_normal, ↓then_exit, ↓inBlock_normal, ↓inBlock_exit, pval, rd_S, rd_C, put_S, eq_self, mk, List.foldl_cons, List.foldl_nil, List.replicate_succ, List.replicate_zero, List.set_cons_zero, List.set_cons_succ, List.getElem?_cons_zero, List.getElem?_cons_succ, Option.getD_some, List.length_cons, List.length_nil, Nat.reduceAdd, Nat.reduceEqDiff, Nat.zero_add, bin_add, bin_lss, w64, if_true, if_false, decide_false, true_and, hltj']
          refine ⟨(i + 1, ag2, b2), ⟨hlti, hwk2, fun h i' hi' p hp => ?_, hct2⟩, by simp [Has, rd_s], rfl, by simp only; omega⟩
          by_cases hie : i' = i
          · subst hie
            rw [hxl] at hp
            exact (hcl2 h).2 p hp
          · exact (hcl2 h).1 i' (by omega) p hp
      · have hlti' : ¬ ((i : Int) < ws.length) := by omega
        simp (maxSteps := 4000000) -implicitDefEqProofs -dsimp (disch := omega) only [↓AW_ops, ↓AW_seq, ↓AW_cond, ↓AW_exit, ↓AOps_nil, ↓AOps_pu, on_some, condB_f, ↓then_normal, ↓then_exit, ↓inBlock_normal, ↓inBlock_exit, pval, rd_S, rd_C, put_S, eq_self, mk, List.foldl_cons, List.foldl_nil, List.replicate_succ, List.replicate_zero, List.set_cons_zero, List.set_cons_succ, List.getElem?_cons_zero, List.getElem?_cons_succ, Option.getD_some, List.length_cons, List.length_nil, Nat.reduceAdd, Nat.reduceEqDiff, Nat.zero_add, bin_lss, if_true, if_false, decide_false, true_and, hlti']
        refine ⟨(ag, b1), ⟨hwk1, fun h i' hi' => hcl1 h i' (by omega)⟩, by simp [Has, rd_s], rfl, ?_⟩
        simp only
        cases ag <;> simp at hct ⊢ <;> omega
end Go.Proofs.Ytlmbobbefgcolaa

namespace Go.Proofs.Ytlmbobbefgcolaa
open Go Go.Eng
theorem s47 {P : Int} {ws : List (AV × List Int)} {v : AV} {A : AHeap} (hw : LL A v ws) (hs : Sz ws) :
    ∃ r H', ACalls Try.prog 47 [.agg [I P, v]] A r H' ∧ ∃ os, r = .tuple [outV 1 A os.length, I (vW P (lists ws))] ∧ H' = outH A (os.flatMap e1) os.length ∧ (vW P (lists ws) ≠ 0 → os = []) ∧ (vW P (lists ws) = 0 → isS ws.length os ∧ Clo P (lists ws) (best P ws) (inS os)) := by
  refine acallsR hmix Try.func47 (by kernel_rfl) t47 _ 1 rfl (by decide) ?_
  dsimp only [m47]
  simp (maxSteps := 4000000) -implicitDefEqProofs -dsimp (disch := omega) only [↓AW_ops, ↓AW_seq, ↓AOps_nil, ↓AOps_pu, ↓AOps_call, on_some, ↓then_normal, pval, rd_S, rd_C, put_S, chkd, bgot, cells_agg, partA, eq_self, List.replicate_succ, List.replicate_zero, List.set_cons_zero, List.set_cons_succ, List.getElem?_cons_zero, List.getElem?_cons_succ, List.drop_zero, List.take_succ_cons, List.take_nil, Option.getD_some, map_c, map_n, List.length_cons, List.length_nil, Nat.reduceAdd, Nat.reduceSub, Nat.reduceLeDiff, Nat.reduceEqDiff, Nat.zero_add, List.cons_append, List.nil_append, if_true, if_false]
  refine CallK.of (s39 hw hs) ?_
  by_cases h0 : vW P (lists ws) = 0
  · obtain ⟨r, H', hcall, os, rfl, rfl, h1, h2⟩ := s80 (val_of h0) hw
    simp (maxSteps := 4000000) -implicitDefEqProofs -dsimp (disch := omega) only [↓AW_skip, ↓AW_ops, ↓AW_seq, ↓AW_cond, ↓AOps_nil, ↓AOps_pu, ↓AOps_call, on_some, extK_same, condB_f, ↓then_normal, pval, rd_S, rd_C, put_S, chkd, bgot, partA, eq_self, List.replicate_succ, List.replicate_zero, List.set_cons_zero, List.set_cons_succ, List.getElem?_cons_zero, List.getElem?_cons_succ, List.drop_zero, List.take_succ_cons, List.take_nil, Option.getD_some, map_c, map_n, List.length_cons, List.length_nil, Nat.reduceAdd, Nat.reduceSub, Nat.reduceLeDiff, Nat.reduceEqDiff, Nat.zero_add, List.cons_append, List.nil_append, bin_neq, if_true, if_false, decide_false, not_true_eq_false, h0]
    refine CallK.of hcall ?_
    simp (maxSteps := 4000000) -implicitDefEqProofs -dsimp (disch := omega) only [↓AW_ret, ↓AOps_nil, ↓AOps_pu, on_some, extK_false, ↓then_normal, ↓FinR_ret, pval, rd_S, rd_C, put_S, resV, resL, List.replicate_succ, List.replicate_zero, List.set_cons_zero, List.set_cons_succ, List.getElem?_cons_zero, List.getElem?_cons_succ, Option.getD_some, Nat.reduceSub, List.cons_append, List.nil_append, ne_eq]
    exact ⟨_, _, gc_all, os, by simp [h0], rfl, fun h => absurd h0 h, fun _ => ⟨h1, h2⟩⟩
  · simp (maxSteps := 4000000) -implicitDefEqProofs -dsimp (disch := omega) only [↓AW_ops, ↓AW_seq, ↓AW_cond, ↓AW_ret, ↓AOps_nil, ↓AOps_pu, on_some, extK_same, condB_t, ↓then_normal, ↓then_ret, ↓FinR_ret, pval, rd_S, rd_C, put_S, resV, resL, List.replicate_succ, List.replicate_zero, List.set_cons_zero, List.set_cons_succ, List.getElem?_cons_zero, List.getElem?_cons_succ, Option.getD_some, Nat.reduceSub, List.cons_append, List.nil_append, bin_neq, decide_true, forall_const, and_true, false_implies, ne_eq, not_false_eq_true, h0]
    exact ⟨_, _, gc_all, [], rfl, rfl, by simp []⟩
/-- A smallest cover. -/
theorem s51 {P : Int} {ws : List (AV × List Int)} {v : AV} {A : AHeap} (hw : LL A v ws) (hs : Sz ws) :
    ∃ r H', ACalls Try.prog 51 [.agg [I P, v]] A r H' ∧ ∃ y z os ps, r = .tuple [y, z, I (vW P (lists ws))] ∧ A <+: H' ∧ L1 H' y os ∧ L1 H' z ps ∧ (vW P (lists ws) ≠ 0 → os = [] ∧ ps = []) ∧ (vW P (lists ws) = 0 → cvE P (lists ws) os ps = 0 ∧ os.length + ps.length = most P (lists ws)) ∧ os.length ≤ 40 ∧ ps.length ≤ 40 := by
  refine acallsR hmix Try.func51 (by kernel_rfl) t51 _ 1 rfl (by decide) ?_
  dsimp only [m51]
  simp (maxSteps := 4000000) -implicitDefEqProofs -dsimp (disch := omega) only [↓AW_ops, ↓AW_seq, ↓AOps_nil, ↓AOps_pu, ↓AOps_call, on_some, ↓then_normal, pval, rd_S, rd_C, put_S, chkd, bgot, cells_agg, partA, eq_self, List.replicate_succ, List.replicate_zero, List.set_cons_zero, List.set_cons_succ, List.getElem?_cons_zero, List.getElem?_cons_succ, List.drop_zero, List.take_succ_cons, List.take_nil, Option.getD_some, map_c, map_n, List.length_cons, List.length_nil, Nat.reduceAdd, Nat.reduceSub, Nat.reduceLeDiff, Nat.reduceEqDiff, Nat.zero_add, List.cons_append, List.nil_append, if_true, if_false]
  refine CallK.of (s39 hw hs) ?_
  by_cases h0 : vW P (lists ws) = 0
  · have hv := val_of h0
    have hP := hv.hP
    have hn : ws.length ≤ 7 := by simpa using hv.n
    have hlsl : (lists ws).length = ws.length := by simp
    have hls : ∀ l ∈ lists ws, ∀ p ∈ l, inP P p := fun l hl => (hv.l l hl).1
    obtain ⟨r, H', hcall, ss, rfl, rfl, h1, h2⟩ := s80 hv hw
    have hsl : ss.length ≤ 7 := by
      have := nodup_len (up_nodup h1.2) (m := nums ws.length) (fun x hx => mem_nums.2 (h1.1 x hx))
      simp [nums] at this
      omega
    simp (maxSteps := 4000000) -implicitDefEqProofs -dsimp (disch := omega) only [↓AW_skip, ↓AW_ops, ↓AW_seq, ↓AW_cond, ↓AOps_nil, ↓AOps_pu, ↓AOps_call, on_some, extK_same, condB_f, ↓then_normal, pval, rd_S, rd_C, put_S, chkd, bgot, partA, eq_self, List.replicate_succ, List.replicate_zero, List.set_cons_zero, List.set_cons_succ, List.getElem?_cons_zero, List.getElem?_cons_succ, List.drop_zero, List.take_succ_cons, List.take_nil, Option.getD_some, map_c, map_n, List.length_cons, List.length_nil, Nat.reduceAdd, Nat.reduceSub, Nat.reduceLeDiff, Nat.reduceEqDiff, Nat.zero_add, List.cons_append, List.nil_append, bin_neq, if_true, if_false, decide_false, not_true_eq_false, h0]
    refine CallK.of hcall ?_
    have p1 := pre_out A (ss.flatMap Go.Eng.e1) ss.length
    have hL := Ls_out A e1_len ss
    generalize outV 1 A ss.length = y1 at *
    generalize outH A (ss.flatMap Go.Eng.e1) ss.length = A1 at *
    have hw1 := hw.mono p1
    simp (maxSteps := 4000000) -implicitDefEqProofs -dsimp (disch := omega) only [↓AW_ops, ↓AW_seq, ↓AW_block, ↓AOps_nil, ↓AOps_pu, on_some, extK_false, ↓then_normal, pval, rd_S, rd_C, put_S, ↓AW_toLoop, chkd, isAdr, bgot, cells_agg, partA, eq_self, List.replicate_succ, List.replicate_zero, List.set_cons_zero, List.set_cons_succ, List.getElem?_cons_zero, List.getElem?_cons_succ, List.drop_zero, List.drop_succ_cons, List.take_succ_cons, List.take_nil, Option.getD_some, List.length_cons, List.length_nil, Nat.reduceAdd, Nat.reduceSub, Nat.reduceLeDiff, Nat.zero_add, List.cons_append, List.nil_append, if_true, if_false, Bool.false_eq_true, hw.ls.len]
    refine LoopK.by 35 (fun x : Nat × AV × AHeap => x.1 ≤ ws.length ∧ AccL 1 e1 A1 x.2.2 x.2.1 ((nums x.1).filter (fun i => !decide (i ∈ ss)))) (fun x => [(1, .agg [I P, v]), (6, y1), (7, x.2.1), (18, I ws.length), (19, I x.1)]) (fun x => x.2.2) (fun x => ws.length - x.1) (0, .nilS, A1) ⟨by simp only; omega, AccL.nil (List.prefix_refl _)⟩ rfl (by simp [Has, rd_s]) rfl ?_
    rintro ⟨k, o, H⟩ ⟨hk, ho⟩
    simp only at hk ho
    have hL2 := hL.mono ho.pre
    by_cases hltk : k < ws.length
    · have hltk' : (k : Int) < ws.length := by omega
      have hle := List.length_filter_le (fun i => !decide (i ∈ ss)) (nums k)
      have hnk : (nums k).length = k := by simp [nums]
      simp (maxSteps := 4000000) -implicitDefEqProofs -dsimp (disch := omega) only [↓AW_skip, ↓AW_ops, ↓AW_seq, ↓AW_cond, ↓AW_block, ↓AOps_nil, ↓AOps_pu, ↓AOps_call, on_some, condB_t, ↓then_normal, pval, rd_S, put_S, mk, List.foldl_cons, List.foldl_nil, List.replicate_succ, List.replicate_zero, List.set_cons_zero, List.set_cons_succ, List.getElem?_cons_zero, List.getElem?_cons_succ, Option.getD_some, map_c, map_n, bin_lss, decide_true, hltk']
      refine CallK.of (c_Contains hL2 (by omega) (k : Int)) ?_
      by_cases hm : (k : Int) ∈ ss
      · simp (maxSteps := 4000000) -implicitDefEqProofs -dsimp (disch := omega) only [↓AW_skip, ↓AW_ops, ↓AW_cond, ↓AOps_nil, ↓AOps_pu, on_some, extK_same, condB_f, ↓then_normal, ↓inBlock_normal, pval, rd_S, rd_C, put_S, eq_self, mk, List.foldl_cons, List.foldl_nil, List.replicate_succ, List.replicate_zero, List.set_cons_zero, List.set_cons_succ, List.getElem?_cons_zero, List.getElem?_cons_succ, Option.getD_some, List.length_cons, List.length_nil, Nat.reduceAdd, Nat.zero_add, bin_add, w64, Bool.not_true, decide_true, true_and, hm]
        refine ⟨(k + 1, o, H), ⟨hltk, ?_⟩, by simp [Has, rd_s], rfl, by simp only; omega⟩
        simp only
        rw [nums_succ, List.filter_append]
        simp only [List.filter_cons, List.filter_nil, hm, decide_true, Bool.not_true, Bool.false_eq_true, if_false, List.append_nil]
        exact ho
      · obtain ⟨v4, A4, happ, h4⟩ := ho.push e1_len (k : Int) (by simp [lim]; omega)
        simp only [Go.Eng.e1] at happ
        simp (maxSteps := 4000000) -implicitDefEqProofs -dsimp (disch := omega) only [↓AW_ops, ↓AW_cond, ↓AOps_nil, ↓AOps_pu, ↓AOps_ha, on_some, extK_false, extK_app, extK_same, condB_t, ↓then_normal, ↓inBlock_normal, pval, hval_blds, hval_app, rd_S, rd_C, put_S, cells_int, splice, fillA, repl, eq_self, mk, List.foldl_cons, List.foldl_nil, List.replicate_succ, List.replicate_zero, List.set_cons_zero, List.set_cons_succ, List.getElem?_cons_zero, List.getElem?_cons_succ, List.drop_succ_cons, List.drop_nil, List.take_zero, Option.getD_some, map_c, map_n, List.length_cons, List.length_nil, Nat.reduceAdd, Nat.reduceLeDiff, Nat.zero_add, List.nil_append, List.append_nil, bin_add, w64, if_true, Bool.not_false, decide_false, true_and, and_true, hm, happ]
        refine ⟨(k + 1, v4, A4), ⟨hltk, ?_⟩, by simp [Has, rd_s], rfl, by simp only; omega⟩
        simp only
        rw [nums_succ, List.filter_append]
        simp only [List.filter_cons, List.filter_nil, hm, decide_false, Bool.not_false, if_true]
        exact h4
    · have hltk' : ¬ ((k : Int) < ws.length) := by omega
      have hke : k = ws.length := by omega
      subst hke
      have hwH := hw1.mono ho.pre
      have hoL := AccL_ls ho e1_len
      simp (maxSteps := 4000000) -implicitDefEqProofs -dsimp (disch := omega) only [↓AW_ops, ↓AW_seq, ↓AW_cond, ↓AW_exit, ↓AOps_nil, ↓AOps_pu, ↓AOps_call, on_some, condB_f, ↓then_normal, ↓then_exit, ↓inBlock_exit, pval, rd_S, put_S, chkd, bgot, partA, eq_self, mk, List.foldl_cons, List.foldl_nil, List.replicate_succ, List.replicate_zero, List.set_cons_zero, List.set_cons_succ, List.getElem?_cons_zero, List.getElem?_cons_succ, List.drop_zero, List.take_succ_cons, List.take_nil, Option.getD_some, map_c, map_n, List.length_cons, List.length_nil, Nat.reduceAdd, Nat.reduceLeDiff, Nat.reduceEqDiff, Nat.zero_add, bin_lss, if_true, if_false, decide_false, ne_eq, hltk']
      refine CallK.of (s75 hwH hs hL2 (by omega) h1.1 (by omega)) ?_
      have p3 := pre_out H ((wsh (lists ws) ss P.toNat).flatMap Go.Eng.e1) (wsh (lists ws) ss P.toNat).length
      have hL3 := Ls_out H e1_len (wsh (lists ws) ss P.toNat)
      generalize outV 1 H (wsh (lists ws) ss P.toNat).length = y3 at *
      generalize outH H ((wsh (lists ws) ss P.toNat).flatMap Go.Eng.e1) (wsh (lists ws) ss P.toNat).length = A3 at *
      simp (maxSteps := 4000000) -implicitDefEqProofs -dsimp (disch := omega) only [↓AW_ret, ↓AOps_nil, ↓AOps_pu, on_some, extK_false, ↓then_normal, ↓FinR_ret, pval, rd_S, rd_C, put_S, resV, resL, mk, List.foldl_cons, List.foldl_nil, List.replicate_succ, List.replicate_zero, List.set_cons_zero, List.set_cons_succ, List.getElem?_cons_zero, List.getElem?_cons_succ, Option.getD_some, ne_eq]
      have hle := List.length_filter_le (fun i => !decide (i ∈ ss)) (nums ws.length)
      have hnk : (nums ws.length).length = ws.length := by simp [nums]
      have hwl := wsh_le (lists ws) ss P.toNat
      have hlack := clo_lack hls (good_noG hv) (by rw [hlsl]; exact h1) h2
      have hbm := best_most P ws
      have hsp := filter_split (fun i => decide (i ∈ ss)) (nums ws.length)
      have hin : ((nums ws.length).filter (fun i => decide (i ∈ ss))).length = ss.length := by
        have a1 := nodup_len (up_nodup h1.2) (m := (nums ws.length).filter (fun p => decide (p ∈ ss))) (fun x hx => List.mem_filter.2 ⟨mem_nums.2 (h1.1 x hx), by simpa using hx⟩)
        have a2 := nodup_len (l := (nums ws.length).filter (fun p => decide (p ∈ ss))) (m := ss) ((nums_nodup ws.length).filter _) (fun x hx => by simpa using (List.mem_filter.1 hx).2)
        omega
      have hbm2 : srv (flF P (lists ws) (noG ws)) = most P (lists ws) := hbm
      refine ⟨_, _, gc_all, _, _, _, _, by simp [h0], (p1.trans ho.pre).trans p3, hoL.mono p3, hL3, fun h => absurd h0 h, fun _ => ⟨?_, by omega⟩, by omega, by omega⟩
      rw [cvE_0, chE_0]
      refine ⟨⟨h0, by rw [hlsl]; exact filter_isS _ _⟩, ?_, fun i hi => ?_⟩
      · have := filter_isS P.toNat (wants (lists ws) ss)
        rw [Int.toNat_of_nonneg (by omega)] at this
        exact this
      · rw [hlsl] at hi
        by_cases hm : (i : Int) ∈ ss
        · right
          intro p hp
          have hpin := lst_in hls hp
          unfold wsh
          rw [List.mem_filter, mem_nums]
          refine ⟨⟨hpin.1, by have := hpin.2; omega⟩, ?_⟩
          unfold wants
          rw [List.any_eq_true]
          exact ⟨(i : Int), hm, by simpa using hp⟩
        · left
          rw [List.mem_filter, mem_nums]
          exact ⟨⟨by omega, by omega⟩, by simp [hm]⟩
  · simp (maxSteps := 4000000) -implicitDefEqProofs -dsimp (disch := omega) only [↓AW_ops, ↓AW_seq, ↓AW_cond, ↓AW_ret, ↓AOps_nil, ↓AOps_pu, on_some, extK_same, condB_t, ↓then_normal, ↓then_ret, ↓FinR_ret, pval, rd_S, rd_C, put_S, resV, resL, List.replicate_succ, List.replicate_zero, List.set_cons_zero, List.set_cons_succ, List.getElem?_cons_zero, List.getElem?_cons_succ, Option.getD_some, Nat.reduceSub, List.cons_append, List.nil_append, bin_neq, decide_true, forall_const, true_and, false_implies, ne_eq, not_false_eq_true, h0]
    exact ⟨_, _, gc_all, _, _, [], [], rfl, List.prefix_refl _, L1_nil _, L1_nil _, by simp []⟩
end Go.Proofs.Ytlmbobbefgcolaa

namespace Go.Proofs.Ytlmbobbefgcolaa
open Go Go.Eng
/-- selion/seliontop.TopWishes [loop [1, 3, 9, 30, 31], loop [1, 30, 37]] -/
def m16 : MFun := ⟨277, [3], [.mov (.s 6)],
 .seq (.ops [⟨(some 3), some (.junk), none, false, .pu (.bnew (.s 0))⟩,
   ⟨(some 6), some undefA, none, false, .pu (.mov (.c (.bool false)))⟩])
 (.seq (.seq (.ops [⟨(some 39), some undefA, none, false, .ha (.blds 1 1 [.int .i64 0] [(0, 1, (.c (.int .i64 1)))])⟩,
   ⟨(some 40), some undefA, none, false, .ha (.blds 1 1 [.int .i64 0] [(0, 1, (.c (.int .i64 1)))])⟩,
   ⟨(some 41), some undefA, none, false, .ha (.blds 1 1 [.int .i64 0] [(0, 1, (.c (.int .i64 1)))])⟩,
   ⟨(some 42), some undefA, none, false, .ha (.blds 1 3 [.nilS] [(0, 1, (.s 39)), (1, 1, (.s 40)), (2, 1, (.s 41))])⟩,
   ⟨(some 43), some undefA, none, false, .pu (.build [.int .i64 0, .nilS] [(0, 1, (.c (.int .i64 2))), (1, 1, (.s 42))])⟩,
   ⟨(some 44), some undefA, none, false, .ha (.blds 1 3 [.int .i64 0] [(0, 1, (.c (.int .i64 0))), (1, 1, (.c (.int .i64 1))), (2, 1, (.c (.int .i64 2)))])⟩,
   ⟨(some 45), some undefA, none, false, .call 44 [(.s 43), (.s 44)]⟩,
   ⟨(some 38), some undefA, none, false, .pu (.mov (.s 45))⟩,
   ⟨(some 46), some undefA, none, false, .pu (.extr 0 (.s 38))⟩,
   ⟨(some 47), some undefA, none, false, .pu (.extr 1 (.s 38))⟩,
   ⟨(some 7), some undefA, none, false, .pu (.mov (.s 46))⟩,
   ⟨(some 8), some undefA, none, false, .pu (.mov (.s 47))⟩])
 (.seq (.ops [⟨(some 48), some undefA, none, false, .pu (.mov (.s 8))⟩,
   ⟨(some 49), some undefA, none, false, .pu (.bin .neq (.s 48) (.c (.int .i64 0)))⟩,
   ⟨(some 50), some undefA, none, false, .pu (.mov (.s 49))⟩,
   ⟨(some 51), some undefA, (some (50, false)), false, .pu (.mov (.s 7))⟩,
   ⟨(some 52), some undefA, (some (50, false)), false, .pu (.bin .neq (.s 51) (.c (.int .i64 2)))⟩,
   ⟨(some 53), some undefA, none, false, .pu (.pick (.s 50) (.c (.bool true)) (.s 52))⟩])
 (.cond (.s 53) (.seq (.ops [⟨(some 6), some undefA, none, false, .pu (.mov (.c (.bool false)))⟩])
  (.ret))
 (.skip))))
 (.seq (.seq (.ops [⟨(some 54), some undefA, none, false, .pu (.bget none 3 0 2 true)⟩,
   ⟨(some 55), some undefA, none, false, .call 17 [(.s 54)]⟩,
   ⟨(some 56), some undefA, none, false, .pu (.mov (.s 55))⟩,
   ⟨(some 57), some undefA, (some (56, false)), false, .pu (.mov (.s 1))⟩,
   ⟨(some 58), some undefA, (some (56, false)), false, .pu (.len (.s 57))⟩,
   ⟨(some 59), some undefA, (some (56, false)), false, .pu (.bin .gtr (.s 58) (.c (.int .i64 40)))⟩,
   ⟨(some 60), some undefA, none, false, .pu (.pick (.s 56) (.c (.bool true)) (.s 59))⟩,
   ⟨(some 61), some undefA, none, false, .pu (.mov (.s 60))⟩,
   ⟨(some 62), some undefA, (some (61, false)), false, .pu (.mov (.s 2))⟩,
   ⟨(some 63), some undefA, (some (61, false)), false, .pu (.len (.s 62))⟩,
   ⟨(some 64), some undefA, (some (61, false)), false, .pu (.bin .gtr (.s 63) (.c (.int .i64 40)))⟩,
   ⟨(some 65), some undefA, none, false, .pu (.pick (.s 61) (.c (.bool true)) (.s 64))⟩])
 (.cond (.s 65) (.seq (.ops [⟨(some 6), some undefA, none, false, .pu (.mov (.c (.bool true)))⟩])
  (.ret))
 (.skip)))
 (.seq (.ops [⟨(some 67), some undefA, none, false, .pu (.bget none 3 0 2 true)⟩,
   ⟨(some 68), some undefA, none, false, .call 24 [(.s 67)]⟩,
   ⟨(some 66), some undefA, none, false, .pu (.mov (.s 68))⟩,
   ⟨(some 69), some undefA, none, false, .pu (.extr 0 (.s 66))⟩,
   ⟨(some 70), some undefA, none, false, .pu (.extr 1 (.s 66))⟩,
   ⟨(some 9), some undefA, none, false, .pu (.mov (.s 69))⟩,
   ⟨(some 10), some undefA, none, false, .pu (.mov (.s 70))⟩])
 (.seq (.ops [⟨(some 72), some undefA, none, false, .pu (.bget none 3 0 2 true)⟩,
   ⟨(some 73), some undefA, none, false, .call 26 [(.s 72)]⟩,
   ⟨(some 71), some undefA, none, false, .pu (.mov (.s 73))⟩,
   ⟨(some 74), some undefA, none, false, .pu (.extr 0 (.s 71))⟩,
   ⟨(some 75), some undefA, none, false, .pu (.extr 1 (.s 71))⟩,
   ⟨(some 11), some undefA, none, false, .pu (.mov (.s 74))⟩,
   ⟨(some 12), some undefA, none, false, .pu (.mov (.s 75))⟩])
 (.seq (.ops [⟨(some 77), some undefA, none, false, .pu (.bget none 3 0 2 true)⟩,
   ⟨(some 78), some undefA, none, false, .call 51 [(.s 77)]⟩,
   ⟨(some 76), some undefA, none, false, .pu (.mov (.s 78))⟩,
   ⟨(some 79), some undefA, none, false, .pu (.extr 0 (.s 76))⟩,
   ⟨(some 80), some undefA, none, false, .pu (.extr 1 (.s 76))⟩,
   ⟨(some 81), some undefA, none, false, .pu (.extr 2 (.s 76))⟩,
   ⟨(some 13), some undefA, none, false, .pu (.mov (.s 79))⟩,
   ⟨(some 14), some undefA, none, false, .pu (.mov (.s 80))⟩,
   ⟨(some 15), some undefA, none, false, .pu (.mov (.s 81))⟩])
 (.seq (.ops [⟨(some 83), some undefA, none, false, .pu (.bget none 3 0 2 true)⟩,
   ⟨(some 84), some undefA, none, false, .call 47 [(.s 83)]⟩,
   ⟨(some 82), some undefA, none, false, .pu (.mov (.s 84))⟩,
   ⟨(some 85), some undefA, none, false, .pu (.extr 0 (.s 82))⟩,
   ⟨(some 86), some undefA, none, false, .pu (.extr 1 (.s 82))⟩,
   ⟨(some 16), some undefA, none, false, .pu (.mov (.s 85))⟩,
   ⟨(some 17), some undefA, none, false, .pu (.mov (.s 86))⟩])
 (.seq (.ops [⟨(some 88), some undefA, none, false, .pu (.bget none 3 0 2 true)⟩,
   ⟨(some 89), some undefA, none, false, .call 48 [(.s 88)]⟩,
   ⟨(some 87), some undefA, none, false, .pu (.mov (.s 89))⟩,
   ⟨(some 90), some undefA, none, false, .pu (.extr 0 (.s 87))⟩,
   ⟨(some 91), some undefA, none, false, .pu (.extr 1 (.s 87))⟩,
   ⟨(some 18), some undefA, none, false, .pu (.mov (.s 90))⟩,
   ⟨(some 19), some undefA, none, false, .pu (.mov (.s 91))⟩])
 (.seq (.seq (.ops [⟨(some 92), some undefA, none, false, .pu (.mov (.s 10))⟩,
   ⟨(some 93), some undefA, none, false, .pu (.mov (.s 12))⟩,
   ⟨(some 94), some undefA, none, false, .pu (.bin .neq (.s 92) (.s 93))⟩,
   ⟨(some 95), some undefA, none, false, .pu (.mov (.s 94))⟩,
   ⟨(some 96), some undefA, (some (95, false)), false, .pu (.mov (.s 12))⟩,
   ⟨(some 97), some undefA, (some (95, false)), false, .pu (.mov (.s 15))⟩,
   ⟨(some 98), some undefA, (some (95, false)), false, .pu (.bin .neq (.s 96) (.s 97))⟩,
   ⟨(some 99), some undefA, none, false, .pu (.pick (.s 95) (.c (.bool true)) (.s 98))⟩,
   ⟨(some 100), some undefA, none, false, .pu (.mov (.s 99))⟩,
   ⟨(some 101), some undefA, (some (100, false)), false, .pu (.mov (.s 15))⟩,
   ⟨(some 102), some undefA, (some (100, false)), false, .pu (.mov (.s 17))⟩,
   ⟨(some 103), some undefA, (some (100, false)), false, .pu (.bin .neq (.s 101) (.s 102))⟩,
   ⟨(some 104), some undefA, none, false, .pu (.pick (.s 100) (.c (.bool true)) (.s 103))⟩,
   ⟨(some 105), some undefA, none, false, .pu (.mov (.s 104))⟩,
   ⟨(some 106), some undefA, (some (105, false)), false, .pu (.mov (.s 17))⟩,
   ⟨(some 107), some undefA, (some (105, false)), false, .pu (.mov (.s 19))⟩,
   ⟨(some 108), some undefA, (some (105, false)), false, .pu (.bin .neq (.s 106) (.s 107))⟩,
   ⟨(some 109), some undefA, none, false, .pu (.pick (.s 105) (.c (.bool true)) (.s 108))⟩])
 (.cond (.s 109) (.seq (.ops [⟨(some 6), some undefA, none, false, .pu (.mov (.c (.bool false)))⟩])
  (.ret))
 (.skip)))
 (.seq (.seq (.ops [⟨(some 110), some undefA, none, false, .pu (.mov (.s 10))⟩,
   ⟨(some 111), some undefA, none, false, .pu (.bin .neq (.s 110) (.c (.int .i64 0)))⟩])
 (.cond (.s 111) (.seq (.ops [⟨(some 112), some undefA, none, false, .pu (.bget none 3 0 2 true)⟩,
    ⟨(some 113), some undefA, none, false, .call 39 [(.s 112)]⟩,
    ⟨(some 114), some undefA, none, false, .pu (.mov (.s 10))⟩,
    ⟨(some 115), some undefA, none, false, .pu (.bin .eql (.s 113) (.s 114))⟩,
    ⟨(some 6), some undefA, none, false, .pu (.mov (.s 115))⟩])
  (.ret))
 (.skip)))
 (.seq (.ops [⟨(some 117), some undefA, none, false, .pu (.bget none 3 0 2 true)⟩,
   ⟨(some 118), some undefA, none, false, .pu (.mov (.s 11))⟩,
   ⟨(some 119), some undefA, none, false, .call 33 [(.s 117), (.s 118)]⟩,
   ⟨(some 116), some undefA, none, false, .pu (.mov (.s 119))⟩,
   ⟨(some 120), some undefA, none, false, .pu (.extr 0 (.s 116))⟩,
   ⟨(some 121), some undefA, none, false, .pu (.extr 1 (.s 116))⟩,
   ⟨(some 20), some undefA, none, false, .pu (.mov (.s 120))⟩,
   ⟨(some 10), some undefA, none, false, .pu (.mov (.s 121))⟩])
 (.seq (.ops [⟨(some 123), some undefA, none, false, .pu (.bget none 3 0 2 true)⟩,
   ⟨(some 124), some undefA, none, false, .pu (.mov (.s 13))⟩,
   ⟨(some 125), some undefA, none, false, .pu (.mov (.s 14))⟩,
   ⟨(some 126), some undefA, none, false, .call 46 [(.s 123), (.s 124), (.s 125)]⟩,
   ⟨(some 122), some undefA, none, false, .pu (.mov (.s 126))⟩,
   ⟨(some 127), some undefA, none, false, .pu (.extr 0 (.s 122))⟩,
   ⟨(some 128), some undefA, none, false, .pu (.extr 1 (.s 122))⟩,
   ⟨(some 21), some undefA, none, false, .pu (.mov (.s 127))⟩,
   ⟨(some 12), some undefA, none, false, .pu (.mov (.s 128))⟩])
 (.seq (.ops [⟨(some 130), some undefA, none, false, .pu (.bget none 3 0 2 true)⟩,
   ⟨(some 131), some undefA, none, false, .pu (.mov (.s 16))⟩,
   ⟨(some 132), some undefA, none, false, .call 44 [(.s 130), (.s 131)]⟩,
   ⟨(some 129), some undefA, none, false, .pu (.mov (.s 132))⟩,
   ⟨(some 133), some undefA, none, false, .pu (.extr 0 (.s 129))⟩,
   ⟨(some 134), some undefA, none, false, .pu (.extr 1 (.s 129))⟩,
   ⟨(some 22), some undefA, none, false, .pu (.mov (.s 133))⟩,
   ⟨(some 15), some undefA, none, false, .pu (.mov (.s 134))⟩])
 (.seq (.ops [⟨(some 136), some undefA, none, false, .pu (.bget none 3 0 2 true)⟩,
   ⟨(some 137), some undefA, none, false, .pu (.mov (.s 18))⟩,
   ⟨(some 138), some undefA, none, false, .call 33 [(.s 136), (.s 137)]⟩,
   ⟨(some 135), some undefA, none, false, .pu (.mov (.s 138))⟩,
   ⟨(some 139), some undefA, none, false, .pu (.extr 0 (.s 135))⟩,
   ⟨(some 140), some undefA, none, false, .pu (.extr 1 (.s 135))⟩,
   ⟨(some 23), some undefA, none, false, .pu (.mov (.s 139))⟩,
   ⟨(some 17), some undefA, none, false, .pu (.mov (.s 140))⟩])
 (.seq (.seq (.ops [⟨(some 141), some undefA, none, false, .pu (.mov (.s 10))⟩,
   ⟨(some 142), some undefA, none, false, .pu (.bin .neq (.s 141) (.c (.int .i64 0)))⟩,
   ⟨(some 143), some undefA, none, false, .pu (.mov (.s 142))⟩,
   ⟨(some 144), some undefA, (some (143, false)), false, .pu (.mov (.s 12))⟩,
   ⟨(some 145), some undefA, (some (143, false)), false, .pu (.bin .neq (.s 144) (.c (.int .i64 0)))⟩,
   ⟨(some 146), some undefA, none, false, .pu (.pick (.s 143) (.c (.bool true)) (.s 145))⟩,
   ⟨(some 147), some undefA, none, false, .pu (.mov (.s 146))⟩,
   ⟨(some 148), some undefA, (some (147, false)), false, .pu (.mov (.s 15))⟩,
   ⟨(some 149), some undefA, (some (147, false)), false, .pu (.bin .neq (.s 148) (.c (.int .i64 0)))⟩,
   ⟨(some 150), some undefA, none, false, .pu (.pick (.s 147) (.c (.bool true)) (.s 149))⟩,
   ⟨(some 151), some undefA, none, false, .pu (.mov (.s 150))⟩,
   ⟨(some 152), some undefA, (some (151, false)), false, .pu (.mov (.s 17))⟩,
   ⟨(some 153), some undefA, (some (151, false)), false, .pu (.bin .neq (.s 152) (.c (.int .i64 0)))⟩,
   ⟨(some 154), some undefA, none, false, .pu (.pick (.s 151) (.c (.bool true)) (.s 153))⟩,
   ⟨(some 155), some undefA, none, false, .pu (.mov (.s 154))⟩,
   ⟨(some 156), some undefA, (some (155, false)), false, .pu (.mov (.s 20))⟩,
   ⟨(some 157), some undefA, (some (155, false)), false, .pu (.mov (.s 9))⟩,
   ⟨(some 158), some undefA, (some (155, false)), false, .pu (.bin .neq (.s 156) (.s 157))⟩,
   ⟨(some 159), some undefA, none, false, .pu (.pick (.s 155) (.c (.bool true)) (.s 158))⟩,
   ⟨(some 160), some undefA, none, false, .pu (.mov (.s 159))⟩,
   ⟨(some 161), some undefA, (some (160, false)), false, .pu (.mov (.s 21))⟩,
   ⟨(some 162), some undefA, (some (160, false)), false, .pu (.mov (.s 9))⟩,
   ⟨(some 163), some undefA, (some (160, false)), false, .pu (.bin .neq (.s 161) (.s 162))⟩,
   ⟨(some 164), some undefA, none, false, .pu (.pick (.s 160) (.c (.bool true)) (.s 163))⟩,
   ⟨(some 165), some undefA, none, false, .pu (.mov (.s 164))⟩,
   ⟨(some 166), some undefA, (some (165, false)), false, .pu (.mov (.s 23))⟩,
   ⟨(some 167), some undefA, (some (165, false)), false, .pu (.mov (.s 9))⟩,
   ⟨(some 168), some undefA, (some (165, false)), false, .pu (.bin .neq (.s 166) (.s 167))⟩,
   ⟨(some 169), some undefA, none, false, .pu (.pick (.s 165) (.c (.bool true)) (.s 168))⟩,
   ⟨(some 170), some undefA, none, false, .pu (.mov (.s 169))⟩,
   ⟨(some 171), some undefA, (some (170, false)), false, .pu (.badr none 3)⟩,
   ⟨(some 172), some undefA, (some (170, false)), false, .pu (.bget (some 171) 3 1 1 false)⟩,
   ⟨(some 173), some undefA, (some (170, false)), false, .pu (.len (.s 172))⟩,
   ⟨(some 174), some undefA, (some (170, false)), false, .pu (.mov (.s 22))⟩,
   ⟨(some 175), some undefA, (some (170, false)), false, .pu (.bin .sub (.s 173) (.s 174))⟩,
   ⟨(some 176), some undefA, (some (170, false)), false, .pu (.mov (.s 9))⟩,
   ⟨(some 177), some undefA, (some (170, false)), false, .pu (.bin .neq (.s 175) (.s 176))⟩,
   ⟨(some 178), some undefA, none, false, .pu (.pick (.s 170) (.c (.bool true)) (.s 177))⟩])
 (.cond (.s 178) (.seq (.ops [⟨(some 6), some undefA, none, false, .pu (.mov (.c (.bool false)))⟩])
  (.ret))
 (.skip)))
 (.seq (.seq (.ops [⟨(some 180), some undefA, none, false, .pu (.bget none 3 0 2 true)⟩,
   ⟨(some 181), some undefA, none, false, .pu (.mov (.s 2))⟩,
   ⟨(some 182), some undefA, none, false, .call 52 [(.s 180), (.s 181)]⟩,
   ⟨(some 179), some undefA, none, false, .pu (.mov (.s 182))⟩,
   ⟨(some 183), some undefA, none, false, .pu (.extr 0 (.s 179))⟩,
   ⟨(some 184), some undefA, none, false, .pu (.extr 1 (.s 179))⟩,
   ⟨(some 24), some undefA, none, false, .pu (.mov (.s 183))⟩,
   ⟨(some 25), some undefA, none, false, .pu (.mov (.s 184))⟩])
 (.seq (.ops [⟨(some 185), some undefA, none, false, .pu (.mov (.s 25))⟩,
   ⟨(some 186), some undefA, none, false, .pu (.bin .eql (.s 185) (.c (.int .i64 0)))⟩])
 (.cond (.s 186) (.seq (.ops [⟨(some 188), some undefA, none, false, .pu (.bget none 3 0 2 true)⟩,
    ⟨(some 189), some undefA, none, false, .pu (.mov (.s 24))⟩,
    ⟨(some 190), some undefA, none, false, .call 33 [(.s 188), (.s 189)]⟩,
    ⟨(some 187), some undefA, none, false, .pu (.mov (.s 190))⟩,
    ⟨(some 191), some undefA, none, false, .pu (.extr 0 (.s 187))⟩,
    ⟨(some 192), some undefA, none, false, .pu (.extr 1 (.s 187))⟩,
    ⟨(some 26), some undefA, none, false, .pu (.mov (.s 191))⟩,
    ⟨(some 27), some undefA, none, false, .pu (.mov (.s 192))⟩])
  (.seq (.ops [⟨(some 193), some undefA, none, false, .pu (.mov (.s 27))⟩,
    ⟨(some 194), some undefA, none, false, .pu (.bin .neq (.s 193) (.c (.int .i64 0)))⟩,
    ⟨(some 195), some undefA, none, false, .pu (.mov (.s 194))⟩,
    ⟨(some 196), some undefA, (some (195, false)), false, .pu (.mov (.s 26))⟩,
    ⟨(some 197), some undefA, (some (195, false)), false, .pu (.bin .mul (.c (.int .i64 2)) (.s 196))⟩,
    ⟨(some 198), some undefA, (some (195, false)), false, .pu (.mov (.s 9))⟩,
    ⟨(some 199), some undefA, (some (195, false)), false, .pu (.bin .lss (.s 197) (.s 198))⟩,
    ⟨(some 200), some undefA, none, false, .pu (.pick (.s 195) (.c (.bool true)) (.s 199))⟩,
    ⟨(some 201), some undefA, none, false, .pu (.mov (.s 200))⟩,
    ⟨(some 202), some undefA, (some (201, false)), false, .pu (.mov (.s 26))⟩,
    ⟨(some 203), some undefA, (some (201, false)), false, .pu (.mov (.s 9))⟩,
    ⟨(some 204), some undefA, (some (201, false)), false, .pu (.bin .gtr (.s 202) (.s 203))⟩,
    ⟨(some 205), some undefA, none, false, .pu (.pick (.s 201) (.c (.bool true)) (.s 204))⟩])
  (.cond (.s 205) (.seq (.ops [⟨(some 6), some undefA, none, false, .pu (.mov (.c (.bool false)))⟩])
   (.ret))
  (.skip))))
 (.skip))))
 (.seq (.seq (.ops [⟨(some 207), some undefA, none, false, .pu (.bget none 3 0 2 true)⟩,
   ⟨(some 208), some undefA, none, false, .pu (.mov (.s 1))⟩,
   ⟨(some 209), some undefA, none, false, .call 33 [(.s 207), (.s 208)]⟩,
   ⟨(some 206), some undefA, none, false, .pu (.mov (.s 209))⟩,
   ⟨(some 210), some undefA, none, false, .pu (.extr 0 (.s 206))⟩,
   ⟨(some 211), some undefA, none, false, .pu (.extr 1 (.s 206))⟩,
   ⟨(some 28), some undefA, none, false, .pu (.mov (.s 210))⟩,
   ⟨(some 29), some undefA, none, false, .pu (.mov (.s 211))⟩])
 (.seq (.ops [⟨(some 212), some undefA, none, false, .pu (.mov (.s 29))⟩,
   ⟨(some 213), some undefA, none, false, .pu (.bin .neq (.s 212) (.c (.int .i64 0)))⟩])
 (.cond (.s 213) (.seq (.ops [⟨(some 6), some undefA, none, false, .pu (.mov (.c (.bool true)))⟩])
  (.ret))
 (.skip))))
 (.seq (.ops [⟨(some 214), some undefA, none, false, .ha (.blds 1 0 [.int .i64 0] [])⟩,
   ⟨(some 215), some undefA, none, false, .pu (.mov (.s 1))⟩,
   ⟨(some 216), some undefA, none, false, .ha (.app 1 (.s 214) (.s 215))⟩,
   ⟨(some 30), some undefA, none, false, .pu (.mov (.s 216))⟩])
 (.seq (.seq (.ops [⟨(some 31), some undefA, none, false, .pu (.mov (.c (.int .i64 0)))⟩])
 (.block 0 (.loop (.seq (.block 1 (.seq (.ops [⟨(some 220), some undefA, none, false, .pu (.bget none 3 0 2 true)⟩,
      ⟨(some 221), some undefA, none, false, .pu (.mov (.s 30))⟩,
      ⟨(some 222), some undefA, none, false, .call 33 [(.s 220), (.s 221)]⟩,
      ⟨(some 219), some undefA, none, false, .pu (.mov (.s 222))⟩,
      ⟨(some 223), some undefA, none, false, .pu (.extr 0 (.s 219))⟩,
      ⟨(some 224), some undefA, none, false, .pu (.extr 1 (.s 219))⟩,
      ⟨(some 32), some undefA, none, false, .pu (.mov (.s 223))⟩,
      ⟨(some 33), some undefA, none, false, .pu (.mov (.s 224))⟩])
    (.seq (.ops [⟨(some 226), some undefA, none, false, .pu (.bget none 3 0 2 true)⟩,
      ⟨(some 227), some undefA, none, false, .pu (.mov (.s 30))⟩,
      ⟨(some 228), some undefA, none, false, .call 36 [(.s 226), (.s 227)]⟩,
      ⟨(some 225), some undefA, none, false, .pu (.mov (.s 228))⟩,
      ⟨(some 229), some undefA, none, false, .pu (.extr 0 (.s 225))⟩,
      ⟨(some 230), some undefA, none, false, .pu (.extr 1 (.s 225))⟩,
      ⟨(some 231), some undefA, none, false, .pu (.extr 2 (.s 225))⟩,
      ⟨(some 34), some undefA, none, false, .pu (.mov (.s 229))⟩,
      ⟨(some 35), some undefA, none, false, .pu (.mov (.s 230))⟩,
      ⟨(some 36), some undefA, none, false, .pu (.mov (.s 231))⟩])
    (.seq (.seq (.ops [⟨(some 232), some undefA, none, false, .pu (.mov (.s 33))⟩,
      ⟨(some 233), some undefA, none, false, .pu (.bin .neq (.s 232) (.c (.int .i64 0)))⟩,
      ⟨(some 234), some undefA, none, false, .pu (.mov (.s 233))⟩,
      ⟨(some 235), some undefA, (some (234, false)), false, .pu (.mov (.s 36))⟩,
      ⟨(some 236), some undefA, (some (234, false)), false, .pu (.bin .neq (.s 235) (.c (.int .i64 0)))⟩,
      ⟨(some 237), some undefA, none, false, .pu (.pick (.s 234) (.c (.bool true)) (.s 236))⟩,
      ⟨(some 238), some undefA, none, false, .pu (.mov (.s 237))⟩,
      ⟨(some 239), some undefA, (some (238, false)), false, .pu (.mov (.s 31))⟩,
      ⟨(some 240), some undefA, (some (238, false)), false, .pu (.bin .gtr (.s 239) (.c (.int .i64 20)))⟩,
      ⟨(some 241), some undefA, none, false, .pu (.pick (.s 238) (.c (.bool true)) (.s 240))⟩,
      ⟨(some 242), some undefA, none, false, .pu (.mov (.s 241))⟩,
      ⟨(some 243), some undefA, (some (242, false)), false, .pu (.mov (.s 35))⟩,
      ⟨(some 244), some undefA, (some (242, false)), false, .pu (.mov (.s 32))⟩,
      ⟨(some 245), some undefA, (some (242, false)), false, .pu (.mov (.s 9))⟩,
      ⟨(some 246), some undefA, (some (242, false)), false, .pu (.bin .lss (.s 244) (.s 245))⟩,
      ⟨(some 247), some undefA, (some (242, false)), false, .pu (.eqb true (.s 243) (.s 246))⟩,
      ⟨(some 248), some undefA, none, false, .pu (.pick (.s 242) (.c (.bool true)) (.s 247))⟩])
    (.cond (.s 248) (.seq (.ops [⟨(some 6), some undefA, none, false, .pu (.mov (.c (.bool false)))⟩])
     (.ret))
    (.skip)))
    (.seq (.seq (.ops [⟨(some 249), some undefA, none, false, .pu (.mov (.s 35))⟩,
      ⟨(some 250), some undefA, none, false, .pu (.not (.s 249))⟩])
    (.cond (.s 250) (.exit 0)
    (.skip)))
    (.seq (.seq (.ops [⟨(some 251), some undefA, none, false, .pu (.mov (.s 34))⟩,
      ⟨(some 252), some undefA, none, false, .pu (.len (.s 251))⟩,
      ⟨(some 253), some undefA, none, false, .pu (.mov (.s 30))⟩,
      ⟨(some 254), some undefA, none, false, .pu (.len (.s 253))⟩,
      ⟨(some 255), some undefA, none, false, .pu (.bin .neq (.s 252) (.s 254))⟩])
    (.cond (.s 255) (.seq (.ops [⟨(some 6), some undefA, none, false, .pu (.mov (.c (.bool false)))⟩])
     (.ret))
    (.skip)))
    (.ops [⟨(some 256), some undefA, none, false, .ha (.blds 1 0 [.int .i64 0] [])⟩,
      ⟨(some 257), some undefA, none, false, .pu (.mov (.s 34))⟩,
      ⟨(some 258), some undefA, none, false, .ha (.app 1 (.s 256) (.s 257))⟩,
      ⟨(some 30), some undefA, none, false, .pu (.mov (.s 258))⟩])))))))
   (.ops [⟨(some 217), some undefA, none, false, .pu (.mov (.s 31))⟩,
     ⟨(some 218), some undefA, none, false, .pu (.bin .add (.s 217) (.c (.int .i64 1)))⟩,
     ⟨(some 31), some undefA, none, false, .pu (.mov (.s 218))⟩])))))
 (.seq (.seq (.ops [⟨(some 37), some undefA, none, false, .pu (.mov (.c (.int .i64 0)))⟩])
 (.block 2 (.loop (.seq (.seq (.ops [⟨(some 259), some undefA, none, false, .pu (.mov (.s 37))⟩,
     ⟨(some 260), some undefA, none, false, .pu (.mov (.s 1))⟩,
     ⟨(some 261), some undefA, none, false, .pu (.len (.s 260))⟩,
     ⟨(some 262), some undefA, none, false, .pu (.bin .lss (.s 259) (.s 261))⟩])
   (.cond (.s 262) (.skip)
   (.exit 2)))
   (.seq (.block 3 (.seq (.ops [⟨(some 265), some undefA, none, false, .pu (.mov (.s 1))⟩,
      ⟨(some 266), some undefA, none, false, .pu (.mov (.s 37))⟩,
      ⟨(some 267), some undefA, none, false, .pu (.idx 1 (.s 265) (.s 266))⟩,
      ⟨(some 268), some undefA, none, false, .ld (.ld 1 false (.s 267))⟩,
      ⟨(some 269), some undefA, none, false, .pu (.bin .geq (.s 268) (.c (.int .i64 0)))⟩,
      ⟨(some 270), some undefA, none, false, .pu (.mov (.s 269))⟩,
      ⟨(some 271), some undefA, (some (270, true)), false, .pu (.mov (.s 30))⟩,
      ⟨(some 272), some undefA, (some (270, true)), false, .pu (.mov (.s 37))⟩,
      ⟨(some 273), some undefA, (some (270, true)), false, .pu (.idx 1 (.s 271) (.s 272))⟩,
      ⟨(some 274), some undefA, (some (270, true)), false, .ld (.ld 1 false (.s 273))⟩,
      ⟨(some 275), some undefA, (some (270, true)), false, .pu (.bin .lss (.s 274) (.c (.int .i64 0)))⟩,
      ⟨(some 276), some undefA, none, false, .pu (.pick (.s 270) (.s 275) (.c (.bool false)))⟩])
    (.cond (.s 276) (.seq (.ops [⟨(some 6), some undefA, none, false, .pu (.mov (.c (.bool false)))⟩])
     (.ret))
    (.skip))))
   (.ops [⟨(some 263), some undefA, none, false, .pu (.mov (.s 37))⟩,
     ⟨(some 264), some undefA, none, false, .pu (.bin .add (.s 263) (.c (.int .i64 1)))⟩,
     ⟨(some 37), some undefA, none, false, .pu (.mov (.s 264))⟩]))))))
 (.seq (.ops [⟨(some 6), some undefA, none, false, .pu (.mov (.c (.bool true)))⟩])
 (.ret)))))))))))))))))))))⟩
theorem t16 : trF Try.prog [3] [] Try.f16 = some m16 := by kernel_rfl
end Go.Proofs.Ytlmbobbefgcolaa

namespace Go.Proofs.Ytlmbobbefgcolaa
open Go Go.Eng
def c1' : AObj := .cells true [I 1]
/-- The heap with the wishes that are written out. -/
def litH (A : AHeap) : AHeap := A ++ [c1'] ++ [c1'] ++ [c1']
def litW (A : AHeap) : List (AV × List Int) := [(.sl 1 A.length 0 1 true, [1]), (.sl 1 (A ++ [c1']).length 0 1 true, [1]), (.sl 1 (A ++ [c1'] ++ [c1']).length 0 1 true, [1])]
theorem lit_ll (A : AHeap) : LL (litH A ++ [.cells true [.sl 1 A.length 0 1 true, .sl 1 (A ++ [c1']).length 0 1 true, .sl 1 (A ++ [c1'] ++ [c1']).length 0 1 true]]) (.sl 1 (litH A).length 0 3 true) (litW A) := by
  have one : ∀ B : AHeap, L1 (B ++ [c1']) (.sl 1 B.length 0 1 true) [1] := fun B => (OL.new_mk e1_len B [(1 : Int)] true).ls
  refine ⟨(OL.new_mk e0_len (litH A) (litW A) true).ls, fun x hx => ?_⟩
  have h1 := one A
  have h2 := one (A ++ [c1'])
  have h3 := one (A ++ [c1'] ++ [c1'])
  simp only [litW, List.mem_cons, List.not_mem_nil, or_false] at hx
  rcases hx with rfl | rfl | rfl
  · exact h1.mono ((pre_app _ _).trans ((pre_app _ _).trans (pre_app _ _)))
  · exact h2.mono ((pre_app _ _).trans (pre_app _ _))
  · exact h3.mono (pre_app _ _)
theorem lit_facts (A : AHeap) : lackN 2 (lists (litW A)) [0, 1, 2] = 2 ∧ chE 2 (lists (litW A)) [0, 1, 2] = 0 := by
  show lackN 2 [[1], [1], [1]] [0, 1, 2] = 2 ∧ chE 2 [[1], [1], [1]] [0, 1, 2] = 0
  decide
/-- A copy behind a list of no elements. -/
theorem app_ex {H : AHeap} {y : AV} {xs : List Int} (hy : L1 H y xs) (hl : xs.length ≤ 1000000) : ∃ v' H', appA 1 (H ++ [.cells true []]) (.sl 1 H.length 0 0 true) y = some (v', H') ∧ H <+: H' ∧ L1 H' v' xs := by
  have hB := hy.mono (pre_app H [.cells true []])
  by_cases h0 : xs.length = 0
  · have hx0 : xs = [] := List.eq_nil_of_length_eq_zero h0
    subst hx0
    refine ⟨.sl 1 H.length 0 0 true, H ++ [.cells true []], ?_, pre_app _ _, (OL.new_mk e1_len H ([] : List Int) true).ls⟩
    unfold appA
    rw [hB.hc]
    simp
  · exact ⟨_, _, app_fresh hB (get_new H (.cells true [])) (by omega) (by simp [lim]; omega), (pre_app _ _).trans (pre_app _ _), (OL.new_mk e1_len _ xs false).ls⟩
set_option maxRecDepth 40000 in
set_option maxHeartbeats 64000000 in
theorem s16 {P : Int} {ws : List (AV × List Int)} {v u t : AV} {g os : List Int} {A : AHeap} (hw : LL A v ws) (hl : ws.length ≤ 9223372036854775807) (hg : L1 A u g) (ho : L1 A t os) :
    ACalls Try.prog 16 [.agg [I P, v], u, t] A (B true) A := by
  refine acalls hmix Try.func16 (by kernel_rfl) t16 3 rfl (by decide) ?_
  rw [start3]
  obtain ⟨q1, q2⟩ := lit_facts A
  have hLL := lit_ll A
  have pl : A <+: litH A := (pre_app _ _).trans ((pre_app _ _).trans (pre_app _ _))
  have hZ : ∀ B : AHeap, L1 (B ++ [AObj.cells true [I 0, I 1, I 2]]) (.sl 1 B.length 0 3 true) [0, 1, 2] := fun B => (OL.new_mk e1_len B [(0 : Int), 1, 2] true).ls
  dsimp only [m16]
  simp (maxSteps := 4000000) -implicitDefEqProofs -dsimp (disch := omega) only [↓AW_ops, ↓AW_seq, ↓AOps_nil, ↓AOps_pu, ↓AOps_ha, ↓AOps_call, on_some, extK_app, ↓then_normal, pval, hval, rd_mkS, rd_mkS0, Nat.reduceBEq, Nat.reduceLT, rd_C, put_mkS, AV.cells?, splice, fillA, repl, beq_self_eq_true, eq_self, List.drop_zero, List.drop_succ_cons, List.drop_nil, List.take_zero, List.take_succ_cons, Option.map_some, map_c, map_n, List.length_cons, List.length_nil, Nat.reduceAdd, Nat.reduceSub, Nat.reduceLeDiff, Nat.zero_add, List.cons_append, List.nil_append, List.append_nil, if_true, Bool.cond_true, Bool.cond_false, and_true, repl]
  rw [show (AObj.cells true [I 1]) = c1' from rfl, show (A ++ [c1'] ++ [c1'] ++ [c1']) = litH A from rfl]
  have hZ1 := hZ (litH A ++ [AObj.cells true [.sl 1 A.length 0 1 true, .sl 1 (A ++ [c1']).length 0 1 true, .sl 1 (A ++ [c1'] ++ [c1']).length 0 1 true]])
  have hL2 := hLL.mono (pre_app _ [AObj.cells true [I 0, I 1, I 2]])
  refine CallK.of (s44 (P := 2) hL2 ⟨by simp [litW], by simp [litW]⟩ hZ1 (by simp)) ?_
  rw [q1, q2]
  simp (maxSteps := 4000000) -implicitDefEqProofs -dsimp (disch := omega) only [↓AW_skip, ↓AW_ops, ↓AW_seq, ↓AW_cond, ↓AOps_nil, ↓AOps_pu, ↓AOps_call, ↓AOps_guard, on_some, extK_same, guardB_ff, condB_f, ↓then_normal, pval, rd_mkS, rd_mkS0, Nat.reduceBEq, Nat.reduceLT, rd_C, put_mkS, chkd, bgot, partA, beq_self_eq_true, eq_self, List.getElem?_cons_zero, List.getElem?_cons_succ, List.drop_zero, List.take_succ_cons, List.take_nil, map_c, map_n, List.length_cons, List.length_nil, Nat.reduceAdd, Nat.reduceSub, Nat.reduceLeDiff, Nat.reduceEqDiff, Nat.zero_add, bin_neq, if_true, if_false, Bool.false_eq_true, decide_false, Bool.cond_true, Bool.cond_false, not_true_eq_false]
  have pA : A <+: (litH A ++ [AObj.cells true [.sl 1 A.length 0 1 true, .sl 1 (A ++ [c1']).length 0 1 true, .sl 1 (A ++ [c1'] ++ [c1']).length 0 1 true]] ++ [AObj.cells true [I 0, I 1, I 2]]) := pl.trans ((pre_app _ _).trans (pre_app _ _))
  generalize (litH A ++ [AObj.cells true [.sl 1 A.length 0 1 true, .sl 1 (A ++ [c1']).length 0 1 true, .sl 1 (A ++ [c1'] ++ [c1']).length 0 1 true]] ++ [AObj.cells true [I 0, I 1, I 2]]) = A1 at pA ⊢
  have hw1 := hw.mono pA
  have hg1 := hg.mono pA
  have ho1 := ho.mono pA
  refine CallK.of (s17 hw1 hl) ?_
  by_cases h1 : longW ws
  · simp (maxSteps := 4000000) -implicitDefEqProofs -dsimp (disch := omega) only [↓AW_ops, ↓AW_seq, ↓AW_cond, ↓AW_ret, ↓AOps_nil, ↓AOps_pu, ↓AOps_guard, on_some, extK_same, guardB_tf, skipS_some, condB_t, ↓then_normal, ↓then_ret, ↓Fin_ret, pval, rd_mkS, rd_mkS0, Nat.reduceBEq, Nat.reduceLT, rd_C, put_mkS, resV, resL, beq_self_eq_true, eq_self, Nat.reduceAdd, Nat.reduceSub, if_true, decide_true, Bool.cond_true, Bool.cond_false, h1]
    exact gc_val pA rfl
  by_cases h2 : (40 : Int) < g.length
  · simp (maxSteps := 4000000) -implicitDefEqProofs -dsimp (disch := omega) only [↓AW_ops, ↓AW_seq, ↓AW_cond, ↓AW_ret, ↓AOps_nil, ↓AOps_pu, ↓AOps_guard, on_some, extK_same, guardB_tf, guardB_ff, skipS_some, condB_t, ↓then_normal, ↓then_ret, ↓Fin_ret, pval, rd_mkS, rd_mkS0, Nat.reduceBEq, Nat.reduceLT, rd_C, put_mkS, resV, resL, beq_self_eq_true, eq_self, Nat.reduceAdd, Nat.reduceSub, bin_gtr, if_true, if_false, Bool.false_eq_true, decide_true, decide_false, Bool.cond_true, Bool.cond_false, h1, hg1.len, h2]
    exact gc_val pA rfl
  by_cases h3 : (40 : Int) < os.length
  · simp (maxSteps := 4000000) -implicitDefEqProofs -dsimp (disch := omega) only [↓AW_ops, ↓AW_seq, ↓AW_cond, ↓AW_ret, ↓AOps_nil, ↓AOps_pu, ↓AOps_guard, on_some, extK_same, guardB_ff, condB_t, ↓then_normal, ↓then_ret, ↓Fin_ret, pval, rd_mkS, rd_mkS0, Nat.reduceBEq, Nat.reduceLT, rd_C, put_mkS, resV, resL, beq_self_eq_true, Nat.reduceAdd, Nat.reduceSub, bin_gtr, if_true, if_false, Bool.false_eq_true, decide_true, decide_false, Bool.cond_true, Bool.cond_false, h1, hg1.len, h2, ho1.len, h3]
    exact gc_val pA rfl
  simp (maxSteps := 4000000) -implicitDefEqProofs -dsimp (disch := omega) only [↓AW_skip, ↓AW_ops, ↓AW_seq, ↓AW_cond, ↓AOps_nil, ↓AOps_pu, ↓AOps_call, ↓AOps_guard, on_some, extK_same, guardB_ff, condB_f, ↓then_normal, pval, rd_mkS, rd_mkS0, Nat.reduceBEq, Nat.reduceLT, rd_C, put_mkS, chkd, bgot, partA, beq_self_eq_true, eq_self, List.getElem?_cons_zero, List.drop_zero, List.take_succ_cons, List.take_nil, map_c, map_n, List.length_cons, List.length_nil, Nat.reduceAdd, Nat.reduceSub, Nat.reduceLeDiff, Nat.reduceEqDiff, Nat.zero_add, bin_gtr, if_true, if_false, Bool.false_eq_true, decide_false, Bool.cond_true, Bool.cond_false, h1, hg1.len, h2, ho1.len, h3]
  have hs := Sz_of h1
  have hs1 := hs.1
  refine CallK.of (s24 (P := P) hw1 hs) ?_
  simp (maxSteps := 4000000) -implicitDefEqProofs -dsimp (disch := omega) only [↓AW_ops, ↓AW_seq, ↓AOps_nil, ↓AOps_pu, ↓AOps_call, on_some, extK_same, ↓then_normal, pval, rd_mkS, rd_mkS0, Nat.reduceBEq, Nat.reduceLT, put_mkS, chkd, bgot, partA, beq_self_eq_true, eq_self, List.getElem?_cons_zero, List.getElem?_cons_succ, List.drop_zero, List.take_succ_cons, List.take_nil, map_c, map_n, List.length_cons, List.length_nil, Nat.reduceAdd, Nat.reduceSub, Nat.reduceLeDiff, Nat.reduceEqDiff, Nat.zero_add, if_true, if_false, Bool.cond_true, Bool.cond_false]
  have cG := s26 (P := P) hw1 hs
  have p2 := giveH_pre P ws A1
  have hGv := give_ls P ws A1
  have hGl := give_len (P := P) hs
  generalize giveV P ws A1 = yg at *
  generalize giveH P ws A1 = A2 at *
  refine CallK.of cG ?_
  simp (maxSteps := 4000000) -implicitDefEqProofs -dsimp (disch := omega) only [↓AW_ops, ↓AW_seq, ↓AOps_nil, ↓AOps_pu, ↓AOps_call, on_some, extK_false, ↓then_normal, pval, rd_mkS, rd_mkS0, Nat.reduceBEq, Nat.reduceLT, put_mkS, chkd, bgot, partA, beq_self_eq_true, eq_self, List.getElem?_cons_zero, List.getElem?_cons_succ, List.drop_zero, List.take_succ_cons, List.take_nil, map_c, map_n, List.length_cons, List.length_nil, Nat.reduceAdd, Nat.reduceSub, Nat.reduceLeDiff, Nat.reduceEqDiff, Nat.zero_add, if_true, if_false, Bool.cond_true, Bool.cond_false]
  have hw2 := hw1.mono p2
  obtain ⟨r, A3, c3, yc, zc, oc, pc3, rfl, p3, hoc, hpc, n3, k3, k3a, k3b⟩ := s51 (P := P) hw2 hs
  refine CallK.of c3 ?_
  simp (maxSteps := 4000000) -implicitDefEqProofs -dsimp (disch := omega) only [↓AW_ops, ↓AW_seq, ↓AOps_nil, ↓AOps_pu, ↓AOps_call, on_some, extK_false, ↓then_normal, pval, rd_mkS, rd_mkS0, Nat.reduceBEq, Nat.reduceLT, put_mkS, chkd, bgot, partA, beq_self_eq_true, eq_self, List.getElem?_cons_zero, List.getElem?_cons_succ, List.drop_zero, List.take_succ_cons, List.take_nil, map_c, map_n, List.length_cons, List.length_nil, Nat.reduceAdd, Nat.reduceSub, Nat.reduceLeDiff, Nat.reduceEqDiff, Nat.zero_add, if_true, if_false, Bool.cond_true, Bool.cond_false]
  have hw3 := hw2.mono p3
  obtain ⟨r, A4, c4, ss, rfl, rfl, n4, k4⟩ := s47 (P := P) hw3 hs
  have p4 := pre_out A3 (ss.flatMap Go.Eng.e1) ss.length
  have hss := Ls_out A3 e1_len ss
  generalize outV 1 A3 ss.length = ysh at *
  generalize outH A3 (ss.flatMap Go.Eng.e1) ss.length = A4 at *
  refine CallK.of c4 ?_
  simp (maxSteps := 4000000) -implicitDefEqProofs -dsimp (disch := omega) only [↓AW_ops, ↓AW_seq, ↓AOps_nil, ↓AOps_pu, ↓AOps_call, on_some, extK_false, ↓then_normal, pval, rd_mkS, rd_mkS0, Nat.reduceBEq, Nat.reduceLT, put_mkS, chkd, bgot, partA, beq_self_eq_true, eq_self, List.getElem?_cons_zero, List.getElem?_cons_succ, List.drop_zero, List.take_succ_cons, List.take_nil, map_c, map_n, List.length_cons, List.length_nil, Nat.reduceAdd, Nat.reduceSub, Nat.reduceLeDiff, Nat.reduceEqDiff, Nat.zero_add, if_true, if_false, Bool.cond_true, Bool.cond_false]
  have hw4 := hw3.mono p4
  obtain ⟨r, A5, c5, n5, k5⟩ := s48 (P := P) hw4 hs
  by_cases h0 : vW P (lists ws) = 0
  case neg =>
    obtain ⟨rfl, p5⟩ := n5 h0
    refine CallK.of c5 ?_
    simp (maxSteps := 4000000) -implicitDefEqProofs -dsimp (disch := omega) only [↓AW_skip, ↓AW_ops, ↓AW_seq, ↓AW_cond, ↓AOps_nil, ↓AOps_pu, ↓AOps_call, ↓AOps_guard, on_some, extK_false, guardB_ff, condB_t, condB_f, ↓then_normal, pval, rd_mkS, rd_mkS0, Nat.reduceBEq, Nat.reduceLT, rd_C, put_mkS, chkd, bgot, partA, beq_self_eq_true, eq_self, List.getElem?_cons_zero, List.getElem?_cons_succ, List.drop_zero, List.take_succ_cons, List.take_nil, map_c, map_n, List.length_cons, List.length_nil, Nat.reduceAdd, Nat.reduceSub, Nat.reduceLeDiff, Nat.reduceEqDiff, Nat.zero_add, bin_neq, if_true, if_false, Bool.false_eq_true, decide_true, decide_false, Bool.cond_true, Bool.cond_false, not_true_eq_false, not_false_eq_true, h0]
    refine CallK.of (s39 (P := P) (hw4.mono p5) hs) ?_
    simp (maxSteps := 4000000) -implicitDefEqProofs -dsimp (disch := omega) only [↓AW_ret, ↓AOps_nil, ↓AOps_pu, on_some, extK_same, ↓then_normal, ↓then_ret, ↓Fin_ret, pval, rd_mkS, rd_mkS0, Nat.reduceBEq, Nat.reduceLT, put_mkS, resV, resL, beq_self_eq_true, eq_self, Nat.reduceAdd, Nat.reduceSub, bin_eql, if_true, decide_true, Bool.cond_true, Bool.cond_false]
    exact gc_val (pA.trans (p2.trans (p3.trans (p4.trans p5)))) rfl
  obtain ⟨yh, gh, rfl, p5, hgh, hG5, hs5, _⟩ := k5 h0
  refine CallK.of c5 ?_
  have hw5 := hw4.mono p5
  have hv := val_of h0
  have hP := hv.hP
  have hn : ws.length ≤ 7 := by simpa using hv.n
  have hlsl : (lists ws).length = ws.length := by simp
  have hls : ∀ l ∈ lists ws, ∀ p ∈ l, inP P p := fun l hl => (hv.l l hl).1
  have hM : mostN P (lists ws) = most P (lists ws) := by unfold mostN; rw [if_pos h0]
  have hmw : most P (lists ws) ≤ ws.length := by
    have := srv_le (best P ws)
    rw [best_most, best_len hv] at this
    exact this
  rw [hM]
  simp (maxSteps := 4000000) -implicitDefEqProofs -dsimp (disch := omega) only [↓AW_skip, ↓AW_ops, ↓AW_seq, ↓AW_cond, ↓AOps_nil, ↓AOps_pu, ↓AOps_call, ↓AOps_guard, on_some, extK_false, guardB_ff, condB_f, ↓then_normal, pval, rd_mkS, rd_mkS0, Nat.reduceBEq, Nat.reduceLT, rd_C, put_mkS, chkd, bgot, partA, beq_self_eq_true, eq_self, List.getElem?_cons_zero, List.getElem?_cons_succ, List.drop_zero, List.take_succ_cons, List.take_nil, map_c, map_n, List.length_cons, List.length_nil, Nat.reduceAdd, Nat.reduceSub, Nat.reduceLeDiff, Nat.reduceEqDiff, Nat.zero_add, bin_neq, if_true, if_false, Bool.false_eq_true, decide_false, Bool.cond_true, Bool.cond_false, not_true_eq_false, h0]
  -- what is returned is right, and tells the most
  obtain ⟨g1, g2⟩ := give_good (P := P) h0
  have hGv5 := hGv.mono (p3.trans (p4.trans p5))
  refine CallK.of (s33 (P := P) hw5 hs hGv5 (by omega)) ?_
  rw [g1, g2]
  simp (maxSteps := 4000000) -implicitDefEqProofs -dsimp (disch := omega) only [↓AW_ops, ↓AW_seq, ↓AOps_nil, ↓AOps_pu, ↓AOps_call, on_some, extK_same, ↓then_normal, pval, rd_mkS, rd_mkS0, Nat.reduceBEq, Nat.reduceLT, put_mkS, chkd, bgot, partA, beq_self_eq_true, eq_self, List.getElem?_cons_zero, List.getElem?_cons_succ, List.drop_zero, List.take_succ_cons, List.take_nil, map_c, map_n, List.length_cons, List.length_nil, Nat.reduceAdd, Nat.reduceSub, Nat.reduceLeDiff, Nat.reduceEqDiff, Nat.zero_add, if_true, if_false, Bool.cond_true, Bool.cond_false]
  obtain ⟨j1, j2⟩ := k3 h0
  have hoc5 := hoc.mono (p4.trans p5)
  have hpc5 := hpc.mono (p4.trans p5)
  have hcN : cvN P (lists ws) oc pc3 = ((most P (lists ws) : Nat) : Int) := by unfold cvN; rw [if_pos j1]; omega
  refine CallK.of (s46 (P := P) hw5 hs hoc5 (by omega) hpc5 (by omega)) ?_
  rw [hcN, j1]
  simp (maxSteps := 4000000) -implicitDefEqProofs -dsimp (disch := omega) only [↓AW_ops, ↓AW_seq, ↓AOps_nil, ↓AOps_pu, ↓AOps_call, on_some, extK_same, ↓then_normal, pval, rd_mkS, rd_mkS0, Nat.reduceBEq, Nat.reduceLT, put_mkS, chkd, bgot, partA, beq_self_eq_true, eq_self, List.getElem?_cons_zero, List.getElem?_cons_succ, List.drop_zero, List.take_succ_cons, List.take_nil, map_c, map_n, List.length_cons, List.length_nil, Nat.reduceAdd, Nat.reduceSub, Nat.reduceLeDiff, Nat.reduceEqDiff, Nat.zero_add, if_true, if_false, Bool.cond_true, Bool.cond_false]
  obtain ⟨i3, i4⟩ := k4 h0
  have hssl : ss.length ≤ 7 := by
    have := nodup_len (up_nodup i3.2) (m := nums ws.length) (fun x hx => mem_nums.2 (i3.1 x hx))
    simp [nums] at this
    omega
  have hlack := clo_lack hls (good_noG hv) (by rw [hlsl]; exact i3) i4
  have hbm2 : srv (flF P (lists ws) (noG ws)) = most P (lists ws) := best_most P ws
  have hcE : chE P (lists ws) ss = 0 := chE_0.2 ⟨h0, by rw [hlsl]; exact i3⟩
  have hlN : lackN P (lists ws) ss = (ws.length : Int) - ((most P (lists ws) : Nat) : Int) := by
    unfold lackN
    rw [if_pos hcE]
    omega
  have hss5 : L1 A5 ysh ss := hss.mono p5
  refine CallK.of (s44 (P := P) hw5 hs hss5 (by omega)) ?_
  rw [hlN, hcE]
  simp (maxSteps := 4000000) -implicitDefEqProofs -dsimp (disch := omega) only [↓AW_ops, ↓AW_seq, ↓AOps_nil, ↓AOps_pu, ↓AOps_call, on_some, extK_same, ↓then_normal, pval, rd_mkS, rd_mkS0, Nat.reduceBEq, Nat.reduceLT, put_mkS, chkd, bgot, partA, beq_self_eq_true, eq_self, List.getElem?_cons_zero, List.getElem?_cons_succ, List.drop_zero, List.take_succ_cons, List.take_nil, map_c, map_n, List.length_cons, List.length_nil, Nat.reduceAdd, Nat.reduceSub, Nat.reduceLeDiff, Nat.reduceEqDiff, Nat.zero_add, if_true, if_false, Bool.cond_true, Bool.cond_false]
  have hghE : gE P (lists ws) gh = 0 := good_iff.2 ⟨h0, hG5⟩
  have hghN : gN P (lists ws) gh = most P (lists ws) := by unfold gN; rw [if_pos hghE, hs5]
  have hghl : gh.length ≤ 7 := by rw [hG5.len]; omega
  refine CallK.of (s33 (P := P) hw5 hs hgh (by omega)) ?_
  rw [hghE, hghN]
  have hsub : (ws.length : Int) - ((ws.length : Int) - ((most P (lists ws) : Nat) : Int)) = ((most P (lists ws) : Nat) : Int) := by omega
  simp (maxSteps := 4000000) -implicitDefEqProofs -dsimp (disch := omega) only [↓AW_skip, ↓AW_ops, ↓AW_seq, ↓AW_cond, ↓AOps_nil, ↓AOps_pu, ↓AOps_call, ↓AOps_guard, on_some, extK_same, guardB_ff, condB_f, ↓then_normal, pval, rd_mkS, rd_mkS0, Nat.reduceBEq, Nat.reduceLT, rd_C, put_mkS, chkd, isAdr, bgot, AV.cells?, partA, beq_self_eq_true, eq_self, List.getElem?_cons_zero, List.getElem?_cons_succ, List.drop_zero, List.drop_succ_cons, List.take_succ_cons, List.take_nil, map_c, map_n, List.length_cons, List.length_nil, Nat.reduceAdd, Nat.reduceSub, Nat.reduceLeDiff, Nat.reduceEqDiff, Nat.zero_add, bin_sub, bin_neq, w64, if_true, if_false, Bool.false_eq_true, decide_false, Bool.cond_true, Bool.cond_false, not_true_eq_false, hw5.ls.len, hsub]
  have pB : A <+: A5 := pA.trans (p2.trans (p3.trans (p4.trans p5)))
  have ho5 := ho.mono pB
  obtain ⟨r, A6, c6, p6, n6, k6⟩ := s52 (P := P) hw5 hs ho5 (by omega)
  refine CallK.of c6 ?_
  have hw6 := hw5.mono p6
  have pC := pB.trans p6
  have hg6 := hg.mono pC
  rcases Decidable.em (lnE P (lists ws) os = 0) with hE | hE
  case' inl =>
    obtain ⟨yl, hr, hyl⟩ := k6 hE
    subst hr
    obtain ⟨_, hO⟩ := lnE_0.1 hE
    obtain ⟨hG, _⟩ := ln_end hv hO
    have hm := ln_most hv hO
    have hlgE : gE P (lists ws) (lnL (lists ws) os) = 0 := good_iff.2 ⟨h0, hG⟩
    have hlgN : gN P (lists ws) (lnL (lists ws) os) = srv (lnL (lists ws) os) := by unfold gN; rw [if_pos hlgE]
    have hll : (lnL (lists ws) os).length ≤ 40 := by rw [lnL_len]; simpa using hs1
    have hsr : srv (lnL (lists ws) os) ≤ 40 := by
      have := neg_srv (lnL (lists ws) os)
      omega
    have hle : srv (lnL (lists ws) os) ≤ most P (lists ws) := (most_spec (P := P) (by omega) hls).2 _ hG
    have e1' : ¬ 2 * (srv (lnL (lists ws) os) : Int) < (most P (lists ws) : Int) := by omega
    have e2' : ¬ (most P (lists ws) : Int) < (srv (lnL (lists ws) os) : Int) := by omega
    simp (maxSteps := 4000000) -implicitDefEqProofs -dsimp (disch := omega) only [↓AW_ops, ↓AW_seq, ↓AW_cond, ↓AOps_nil, ↓AOps_pu, ↓AOps_call, on_some, extK_false, condB_t, ↓then_normal, pval, rd_mkS, rd_mkS0, Nat.reduceBEq, Nat.reduceLT, rd_C, put_mkS, chkd, bgot, partA, beq_self_eq_true, eq_self, List.getElem?_cons_zero, List.getElem?_cons_succ, List.drop_zero, List.take_succ_cons, List.take_nil, map_c, map_n, List.length_cons, List.length_nil, Nat.reduceAdd, Nat.reduceSub, Nat.reduceLeDiff, Nat.reduceEqDiff, Nat.zero_add, bin_eql, if_true, if_false, decide_true, Bool.cond_true, Bool.cond_false]
    refine CallK.of (s33 (P := P) hw6 hs hyl (by omega)) ?_
    rw [hlgE, hlgN]
    simp (maxSteps := 4000000) -implicitDefEqProofs -dsimp (disch := omega) only [↓AW_skip, ↓AW_ops, ↓AW_seq, ↓AW_cond, ↓AOps_nil, ↓AOps_pu, ↓AOps_call, ↓AOps_guard, on_some, extK_same, guardB_ff, condB_f, ↓then_normal, pval, rd_mkS, rd_mkS0, Nat.reduceBEq, Nat.reduceLT, rd_C, put_mkS, chkd, bgot, partA, beq_self_eq_true, eq_self, List.getElem?_cons_zero, List.getElem?_cons_succ, List.drop_zero, List.take_succ_cons, List.take_nil, map_c, map_n, List.length_cons, List.length_nil, Nat.reduceAdd, Nat.reduceSub, Nat.reduceLeDiff, Nat.reduceEqDiff, Nat.zero_add, bin_mul, bin_neq, bin_lss, bin_gtr, w64, if_true, if_false, Bool.false_eq_true, decide_false, Bool.cond_true, Bool.cond_false, not_true_eq_false, e1', e2']
  case' inr =>
    have hr := n6 hE
    subst hr
    simp (maxSteps := 4000000) -implicitDefEqProofs -dsimp (disch := omega) only [↓AW_skip, ↓AW_ops, ↓AW_seq, ↓AW_cond, ↓AOps_nil, ↓AOps_pu, ↓AOps_call, on_some, extK_false, condB_f, ↓then_normal, pval, rd_mkS, rd_mkS0, Nat.reduceBEq, Nat.reduceLT, rd_C, put_mkS, chkd, bgot, partA, beq_self_eq_true, eq_self, List.getElem?_cons_zero, List.getElem?_cons_succ, List.drop_zero, List.take_succ_cons, List.take_nil, map_c, map_n, List.length_cons, List.length_nil, Nat.reduceAdd, Nat.reduceSub, Nat.reduceLeDiff, Nat.reduceEqDiff, Nat.zero_add, bin_eql, if_true, if_false, decide_false, Bool.cond_true, Bool.cond_false, hE]
  all_goals
    refine CallK.of (s33 (P := P) hw6 hs hg6 (by omega)) ?_
    by_cases hgE : gE P (lists ws) g = 0
    case neg =>
      simp (maxSteps := 4000000) -implicitDefEqProofs -dsimp (disch := omega) only [↓AW_ops, ↓AW_seq, ↓AW_cond, ↓AW_ret, ↓AOps_nil, ↓AOps_pu, on_some, extK_same, condB_t, ↓then_normal, ↓then_ret, ↓Fin_ret, pval, rd_mkS, rd_mkS0, Nat.reduceBEq, Nat.reduceLT, rd_C, put_mkS, resV, resL, beq_self_eq_true, List.getElem?_cons_zero, List.getElem?_cons_succ, Nat.reduceAdd, Nat.reduceSub, bin_neq, if_true, decide_true, Bool.cond_true, Bool.cond_false, not_false_eq_true, hgE]
      exact gc_val pC rfl
    obtain ⟨_, hGg⟩ := good_iff.1 hgE
    have hgl : g.length = ws.length := by rw [hGg.len, hlsl]
    have hfm := fl_max hls hGg
    have hfl : (flF P (lists ws) g).length = ws.length := by rw [hfm.1.len, hlsl]
    have hfs := fl_srv hv hGg
    obtain ⟨y7, A7, happ, p7, hy7⟩ := app_ex hg6 (by omega)
    rw [hgE]
    simp (maxSteps := 4000000) -implicitDefEqProofs -dsimp (disch := omega) only [↓AW_skip, ↓AW_ops, ↓AW_seq, ↓AW_cond, ↓AW_block, ↓AOps_nil, ↓AOps_pu, ↓AOps_ha, on_some, extK_false, extK_app, extK_same, condB_f, ↓then_normal, pval, hval_blds, hval_app, rd_mkS, rd_mkS0, Nat.reduceBEq, Nat.reduceLT, rd_C, put_mkS, ↓AW_toLoop, fillA, repl, beq_self_eq_true, eq_self, List.getElem?_cons_zero, List.getElem?_cons_succ, map_n, Nat.reduceAdd, Nat.reduceSub, bin_neq, if_true, decide_false, Bool.cond_true, Bool.cond_false, not_true_eq_false, repl, happ]
    refine LoopK.byS (fun x : Nat × AHeap × AV × List Int => A6 <+: x.2.1 ∧ L1 x.2.1 x.2.2.1 x.2.2.2 ∧ ((x.1 = 0 ∧ x.2.2.2 = g) ∨ (x.1 = 1 ∧ x.2.2.2 = flF P (lists ws) g))) (fun x => [(1, u), (3, .agg [I P, v]), (9, I (most P (lists ws))), (30, x.2.2.1), (31, I x.1)]) (fun x => x.2.1) (fun x => 2 - x.1) (0, A7, y7, g) ⟨p7, hy7, .inl ⟨rfl, rfl⟩⟩ (by simp [Has, rd_mkS]) rfl ?_
    rintro ⟨k, H, y, now⟩ ⟨pH, hy, hk⟩
    simp only at pH hy hk
    have hGn : Good P (lists ws) now := by
      rcases hk with ⟨_, e⟩ | ⟨_, e⟩
      · rw [e]; exact hGg
      · rw [e]; exact hfm.1
    have hkeep : ∀ i, i < (lists ws).length → 0 ≤ has g i → 0 ≤ has now i := by
      rcases hk with ⟨_, e⟩ | ⟨_, e⟩
      · rw [e]; exact fun i _ h => h
      · rw [e]; exact hfm.2.1
    have hnE : gE P (lists ws) now = 0 := good_iff.2 ⟨h0, hGn⟩
    have hnN : gN P (lists ws) now = srv now := by unfold gN; rw [if_pos hnE]
    have hnl : now.length = ws.length := by rw [hGn.len, hlsl]
    have hwH := hw6.mono pH
    have hgH := hg6.mono pH
    have hk20 : ¬ (20 : Int) < (k : Int) := by omega
    simp (maxSteps := 4000000) -implicitDefEqProofs -dsimp (disch := omega) only [↓AW_ops, ↓AW_seq, ↓AW_block, ↓AOps_pu, ↓AOps_call, on_some, pval, rd_mkS, rd_mkS0, Nat.reduceBEq, Nat.reduceLT, put_mkS, chkd, bgot, partA, beq_self_eq_true, eq_self, List.getElem?_cons_zero, List.drop_zero, List.take_succ_cons, List.take_nil, map_c, map_n, List.length_cons, List.length_nil, Nat.reduceAdd, Nat.reduceLeDiff, Nat.reduceEqDiff, Nat.zero_add, if_true, if_false, Bool.cond_true, Bool.cond_false]
    refine CallK.of (s33 (P := P) hwH hs hy (by omega)) ?_
    rw [hnE, hnN]
    simp (maxSteps := 4000000) -implicitDefEqProofs -dsimp (disch := omega) only [↓AW_ops, ↓AW_seq, ↓AOps_nil, ↓AOps_pu, ↓AOps_call, on_some, extK_same, ↓then_normal, pval, rd_mkS, rd_mkS0, Nat.reduceBEq, Nat.reduceLT, put_mkS, chkd, bgot, partA, beq_self_eq_true, eq_self, List.getElem?_cons_zero, List.getElem?_cons_succ, List.drop_zero, List.take_succ_cons, List.take_nil, map_c, map_n, List.length_cons, List.length_nil, Nat.reduceAdd, Nat.reduceLeDiff, Nat.reduceEqDiff, Nat.zero_add, if_true, if_false, Bool.cond_true, Bool.cond_false]
    refine CallK.of (s36 (P := P) hwH hs hy (by omega)) ?_
    by_cases hb : btB P ws now
    · have hk0 : k = 0 ∧ now = g := by
        rcases hk with h | ⟨_, e⟩
        · exact h
        · exact absurd hb.2 (by rw [e, hfs]; omega)
      obtain ⟨rfl, rfl⟩ := hk0
      have hlt' : ((srv now : Nat) : Int) < ((most P (lists ws) : Nat) : Int) := by have := hb.2; omega
      unfold btV btH
      rw [if_pos hb, if_pos hb, decide_eq_true hb, hnE]
      have pF := pre_app H [.cells true ((flF P (lists ws) now).flatMap Go.Eng.e1)]
      have hL := L1_new H (flF P (lists ws) now) ws.length hfl
      generalize AV.sl 1 H.length 0 ws.length false = yf at *
      generalize H ++ [AObj.cells true ((flF P (lists ws) now).flatMap Go.Eng.e1)] = Hf at *
      obtain ⟨y8, A8, happ8, p8, hy8⟩ := app_ex hL (by omega)
      have hll8 : ((flF P (lists ws) now).length : Int) = (now.length : Int) := by omega
      simp (maxSteps := 4000000) -implicitDefEqProofs -dsimp (disch := omega) only [↓AW_skip, ↓AW_ops, ↓AW_seq, ↓AW_cond, ↓AOps_nil, ↓AOps_pu, ↓AOps_ha, ↓AOps_guard, on_some, extK_false, extK_app, guardB_ff, condB_f, ↓then_normal, ↓inBlock_normal, pval, hval_blds, hval_app, rd_mkS, rd_mkS0, Nat.reduceBEq, Nat.reduceLT, mkS_len, rd_C, put_mkS, fillA, repl, beq_self_eq_true, eq_self, List.getElem?_cons_zero, List.getElem?_cons_succ, map_n, Nat.reduceSub, bin_add, bin_neq, bin_lss, bin_gtr, w64, if_true, if_false, Bool.false_eq_true, Bool.not_true, decide_true, decide_false, Bool.cond_true, Bool.cond_false, true_and, not_true_eq_false, hk20, hlt', hL.len, hy.len, hll8, beq_self_eq_true, repl, happ8]
      exact ⟨(1, A8, y8, flF P (lists ws) now), ⟨pH.trans (pF.trans p8), hy8, .inr ⟨rfl, rfl⟩⟩, by simp [Has, rd_mkS], rfl, by simp only; omega⟩
    · have hnl2 : ¬ ((srv now : Nat) : Int) < ((most P (lists ws) : Nat) : Int) := fun h => hb ⟨hnE, by omega⟩
      unfold btV btH
      rw [if_neg hb, if_neg hb, decide_eq_false hb, hnE]
      simp (maxSteps := 4000000) -implicitDefEqProofs -dsimp (disch := omega) only [↓AW_skip, ↓AW_ops, ↓AW_seq, ↓AW_cond, ↓AW_block, ↓AW_exit, ↓AOps_nil, ↓AOps_pu, ↓AOps_guard, on_some, extK_same, guardB_ff, condB_t, condB_f, ↓then_normal, ↓then_exit, ↓inBlock_exit, pval, rd_mkS, rd_mkS0, Nat.reduceBEq, Nat.reduceLT, mkS_len, rd_C, put_mkS, ↓AW_toLoop, beq_self_eq_true, eq_self, List.getElem?_cons_zero, List.getElem?_cons_succ, bin_add, bin_neq, bin_lss, bin_gtr, w64, if_true, if_false, Bool.false_eq_true, Bool.not_true, Bool.not_false, decide_false, Bool.cond_true, Bool.cond_false, true_and, reduceCtorEq, not_true_eq_false, hk20, hnl2, beq_self_eq_true]
      refine LoopK.byS (fun i : Nat => i ≤ g.length) (fun i => [(1, u), (30, y), (37, I i)]) (fun _ => H) (fun i => g.length - i) 0 (by omega) (by simp [Has, rd_mkS]) rfl ?_
      intro i hi
      by_cases hlt : i < g.length
      · have hlt' : (i : Int) < g.length := by omega
        obtain ⟨z, hz⟩ : ∃ z, g[i]? = some z := ⟨_, List.getElem?_eq_getElem hlt⟩
        have hlt2 : i < now.length := by omega
        obtain ⟨x, hx⟩ : ∃ x, now[i]? = some x := ⟨_, List.getElem?_eq_getElem hlt2⟩
        by_cases hz0 : 0 ≤ z
        · have hx0 : ¬ x < 0 := by
            have := hkeep i (by omega) (by rw [has_get hz]; exact hz0)
            rw [has_get hx] at this
            omega
          simp (maxSteps := 4000000) -implicitDefEqProofs -dsimp (disch := omega) only [↓AW_skip, ↓AW_ops, ↓AW_seq, ↓AW_cond, ↓AW_block, ↓AOps_nil, ↓AOps_pu, ↓AOps_ld, ↓AOps_guard, on_some, guardB_tt, condB_t, condB_f, ↓then_normal, ↓inBlock_normal, pval, lval, rd_mkS, rd_mkS0, Nat.reduceBEq, Nat.reduceLT, mkS_len, rd_C, put_mkS, partA, beq_self_eq_true, eq_self, List.getElem?_cons_zero, List.drop_zero, List.take_succ_cons, List.take_nil, List.length_cons, List.length_nil, Nat.reduceLeDiff, Nat.zero_add, bin_add, bin_lss, bin_geq, w64, if_true, if_false, Bool.false_eq_true, decide_true, decide_false, Bool.cond_true, Bool.cond_false, Go.Eng.e1, true_and, hlt', hgH.len, hgH.idx hlt, hgH.ld0 hz 1 false (by decide), hz0, hy.idx hlt2, hy.ld0 hx 1 false (by decide), hx0]
          exact ⟨i + 1, hlt, by simp [Has, rd_mkS], by omega⟩
        · simp (maxSteps := 4000000) -implicitDefEqProofs -dsimp (disch := omega) only [↓AW_skip, ↓AW_ops, ↓AW_seq, ↓AW_cond, ↓AW_block, ↓AOps_nil, ↓AOps_pu, ↓AOps_ld, ↓AOps_guard, on_some, guardB_ft, skipS_some, condB_t, condB_f, ↓then_normal, ↓inBlock_normal, pval, lval, rd_mkS, rd_mkS0, Nat.reduceBEq, Nat.reduceLT, mkS_len, rd_C, put_mkS, partA, beq_self_eq_true, eq_self, List.getElem?_cons_zero, List.drop_zero, List.take_succ_cons, List.take_nil, List.length_cons, List.length_nil, Nat.reduceLeDiff, Nat.zero_add, bin_add, bin_lss, bin_geq, w64, if_true, if_false, Bool.false_eq_true, decide_true, decide_false, Bool.cond_true, Bool.cond_false, Go.Eng.e1, true_and, hlt', hgH.len, hgH.idx hlt, hgH.ld0 hz 1 false (by decide), hz0]
          exact ⟨i + 1, hlt, by simp [Has, rd_mkS], by omega⟩
      · have hlt' : ¬ ((i : Int) < g.length) := by omega
        simp (maxSteps := 4000000) -implicitDefEqProofs -dsimp (disch := omega) only [↓AW_ops, ↓AW_seq, ↓AW_cond, ↓AW_exit, ↓AW_ret, ↓AOps_nil, ↓AOps_pu, on_some, condB_f, ↓then_normal, ↓then_exit, ↓inBlock_exit, ↓Fin_ret, pval, rd_mkS, rd_mkS0, Nat.reduceBEq, Nat.reduceLT, rd_C, put_mkS, resV, resL, beq_self_eq_true, eq_self, bin_lss, if_true, decide_false, Bool.cond_true, Bool.cond_false, hlt', hgH.len]
        exact gc_val (pC.trans pH) rfl
end Go.Proofs.Ytlmbobbefgcolaa

