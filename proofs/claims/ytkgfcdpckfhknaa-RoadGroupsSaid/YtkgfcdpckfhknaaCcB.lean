/- What the law's proof rests on, part 4: for all that is said in each line. No conditions. -/
import Derived.Test.YtkgfcdpckfhknaaRows
import Derived.Test.YtkgfcdpckfhknaaCcA
namespace Go.Proofs.Ytkgfcdpckfhknaa
open Go Go.Eng
def eb (b : Bool) : List AV := [.bool b]
def bl (P : Nat) (g : Int → Bool) : List AV := ((plc P).map g).flatMap eb
def updB (g : Int → Bool) (k : Int) (x : Bool) : Int → Bool := fun p => if p = k then x else g p
theorem bl_eq (P : Nat) (g : Int → Bool) : bl P g = (plc P).map (fun p => .bool (g p)) := by
  unfold bl
  induction plc P with
  | nil => rfl
  | cons x xs ih => rw [List.map_cons, List.flatMap_cons, ih]; rfl
theorem bl_len (P : Nat) (g : Int → Bool) : (bl P g).length = P := by rw [bl_eq, List.length_map, plc_len]
theorem bl_get {P : Nat} {g : Int → Bool} {k : Int} (h0 : 0 ≤ k) (h1 : k < P) : (bl P g)[k.toNat]? = some (.bool (g k)) := by
  rw [bl_eq, List.getElem?_map, plc_get (by omega)]
  show some (AV.bool (g ((k.toNat : Nat) : Int))) = _
  rw [Int.toNat_of_nonneg h0]
theorem bl_set {P : Nat} {g : Int → Bool} {k : Int} {x : Bool} (h0 : 0 ≤ k) (h1 : k < P) : (bl P g).set k.toNat (.bool x) = bl P (updB g k x) := by
  rw [bl_eq, bl_eq]
  apply List.ext_getElem?
  intro i
  rw [List.getElem?_set]
  by_cases hi : i < P
  · rw [List.getElem?_map, List.getElem?_map, plc_get hi]
    by_cases he : k.toNat = i
    · rw [if_pos he, if_pos (by rw [List.length_map, plc_len]; omega)]
      show _ = some (AV.bool (updB g k x (i : Int)))
      unfold updB
      rw [if_pos (by omega)]
    · rw [if_neg he]
      show some (AV.bool (g (i : Int))) = some (AV.bool (updB g k x (i : Int)))
      unfold updB
      rw [if_neg (by omega)]
  · have hn : ∀ f : Int → AV, ((plc P).map f)[i]? = none := fun f => List.getElem?_eq_none (by rw [List.length_map, plc_len]; omega)
    rw [hn, hn, if_neg (by omega)]
theorem bl_congr {P : Nat} {f g : Int → Bool} (h : ∀ p : Int, 0 ≤ p → p < P → f p = g p) : bl P f = bl P g := by
  rw [bl_eq, bl_eq]
  exact List.map_congr_left (fun p hp => by
    have := mem_plc.1 hp
    rw [h p this.1 this.2])
theorem bl_repl (P : Nat) : repl [.bool false] P = bl P (fun _ => false) := by
  rw [bl_eq]
  have : ∀ n, repl [.bool false] n = List.replicate n (AV.bool false) := by
    intro n
    induction n with
    | zero => rfl
    | succ n ih => rw [repl, ih]; rfl
  rw [this, List.map_const', plc_len]
theorem idxB {n P : Nat} {full : Bool} {k : Int} (h0 : 0 ≤ k) (h1 : k < P) : idxA 1 (.sl 1 n 0 P full) (I k) = some (.ptr n k.toNat) := by
  simp only [idxA]
  rw [if_pos ⟨h0, h1⟩, Nat.zero_add, Nat.mul_one]
theorem ldB {H : AHeap} {n P : Nat} {rw : Bool} {g : Int → Bool} (h : H[n]? = some (.cells rw (bl P g))) {k : Int} (h0 : 0 ≤ k) (h1 : k < P) : ldA 1 false (.ptr n k.toNat) H = some (.bool (g k)) := by
  unfold ldA
  simp only [h]
  unfold partA
  rw [if_pos (by rw [bl_len]; omega)]
  simp only [Bool.false_eq_true, if_false, if_true]
  exact bl_get h0 h1
theorem splice_one {l : List AV} {i : Nat} (h : i < l.length) (x : AV) : splice l i [x] = l.set i x := by
  unfold splice
  rw [List.set_eq_take_append_cons_drop, if_pos h]
  simp
theorem stB {H : AHeap} {n P : Nat} {g : Int → Bool} (h : H[n]? = some (.cells true (bl P g))) {k : Int} (h0 : 0 ≤ k) (h1 : k < P) (x : Bool) : stA 1 (.ptr n k.toNat) (.bool x) H = some (H.set n (.cells true (bl P (updB g k x)))) := by
  unfold stA
  simp only [cells_bool, h]
  rw [if_pos ⟨rfl, by rw [bl_len]; omega⟩, splice_one (by rw [bl_len]; omega), bl_set h0 h1]
def bst (g : Int → Bool) (r : Rd) : Int → Bool := if g r.1 = true ∨ g r.2.1 = true then (fun p => if p = r.2.1 then true else if p = r.1 then true else g p) else g
def brnd (S : List Rd) : Nat → (Int → Bool) → Int → Bool
  | 0, g => g
  | n + 1, g => S.foldl bst (brnd S n g)
theorem bst_mono {g : Int → Bool} {r : Rd} {p : Int} (h : g p = true) : bst g r p = true := by
  unfold bst
  split
  · simp only
    split
    · rfl
    · split
      · rfl
      · exact h
  · exact h
theorem bfold_mono : ∀ (L : List Rd) {g : Int → Bool} {p : Int}, g p = true → L.foldl bst g p = true
  | [], _, _, h => h
  | r :: L, g, p, h => bfold_mono L (bst_mono h)
theorem bfold_next : ∀ (L : List Rd) {g : Int → Bool} {p q : Int}, (∃ r ∈ L, (r.1 = p ∧ r.2.1 = q) ∨ (r.1 = q ∧ r.2.1 = p)) → g p = true → L.foldl bst g q = true
  | [], _, _, _, ⟨r, hr, _⟩, _ => by simp at hr
  | e :: L, g, p, q, ⟨r, hr, hpq⟩, h => by
    rcases List.mem_cons.1 hr with rfl | hr
    · refine bfold_mono L ?_
      unfold bst
      rcases hpq with ⟨rfl, rfl⟩ | ⟨rfl, rfl⟩
      · rw [if_pos (.inl h)]; simp
      · rw [if_pos (.inr h)]
        simp only
        split
        · rfl
        · simp
    · exact bfold_next L ⟨r, hr, hpq⟩ (bst_mono h)
theorem bfold_cn {S : List Rd} {s : Int} : ∀ (L : List Rd) {g : Int → Bool}, (∀ r ∈ L, r ∈ S) → (∀ p, g p = true → Cn S s p) → ∀ p, L.foldl bst g p = true → Cn S s p
  | [], _, _, h => h
  | r :: L, g, hL, h => by
    refine bfold_cn L (fun x hx => hL x (by simp [hx])) (fun p hp => ?_)
    have hab : Cn S r.1 r.2.1 := Cn.one (hL r (by simp))
    unfold bst at hp
    split at hp
    · rename_i hg
      simp only at hp
      have ha : Cn S s r.1 := by
        rcases hg with hg | hg
        · exact h _ hg
        · exact (h _ hg).trans hab.symm
      split at hp
      · rename_i e; rw [e]; exact ha.trans hab
      · split at hp
        · rename_i e; rw [e]; exact ha
        · exact h p hp
    · exact h p hp
theorem brnd_cn {P : Nat} {S : List Rd} (hS : ∀ e ∈ S, InP P e) {s : Int} (s0 : 0 ≤ s) (s1 : s < P) {p : Int} (p0 : 0 ≤ p) (p1 : p < P) : brnd S P (updB (fun _ => false) s true) p = decide (Cn S s p) := by
  have h0 : updB (fun _ => false) s true s = true := by unfold updB; rw [if_pos rfl]
  by_cases hc : Cn S s p
  · rw [decide_eq_true hc]
    exact saturate hS (X := fun t q => brnd S t (updB (fun _ => false) s true) q = true) (fun t q h => bfold_mono S h) (fun t q r _ _ h hadj => bfold_next S hadj h) (s := s) h0 s0 s1 hc
  · rw [decide_eq_false hc, ← Bool.not_eq_true]
    intro h
    refine hc ?_
    have : ∀ n p, brnd S n (updB (fun _ => false) s true) p = true → Cn S s p := by
      intro n
      induction n with
      | zero =>
        intro p hp
        have hp : updB (fun _ => false) s true p = true := hp
        unfold updB at hp
        split at hp
        · rename_i e; rw [e]; exact .refl _
        · cases hp
      | succ n ih => exact bfold_cn S (fun _ h => h) ih
    exact this P p h
section
variable {P : Nat} {rs : List Rd} {ks : List Int} {u v : AV} {A : AHeap}
/-- Where the walk's truth values stand. -/
noncomputable def rchH (A : AHeap) (P : Nat) (S : List Rd) (s : Int) : AHeap := A ++ [.cells true (bl P (fun p => decide (Cn S s p)))]
set_option maxHeartbeats 8000000 in
theorem s66 (hu : L3 A u rs) (hx : L1 A v ks) (hn : Net P rs) (hk : Nos rs ks) (hl : ks.length ≤ 1000000) {s : Int} (s0 : 0 ≤ s) (s1 : s < P) : ACalls Try.prog 66 [.agg [I P, u], I s, v] A (.sl 1 A.length 0 P true) (rchH A P (ks.map (rdx rs)) s) := by
  refine acalls hmix Try.func66 (by kernel_rfl) t66 3 rfl (by decide) ?_
  have hP7 := hn.p7
  have hP1 := hn.p1
  have hS : ∀ e ∈ ks.map (rdx rs), InP P e := inP_map (hk.inP hn)
  have hlim : (P : Int) ≤ (lim : Nat) := by simp only [lim]; omega
  have hP0 : (0 : Int) ≤ P := by omega
  dsimp only [m66]
  simp (maxSteps := 4000000) -implicitDefEqProofs -dsimp (disch := omega) only [↓AW_ops, ↓AW_seq, ↓AW_block, ↓AOps_nil, ↓AOps_pu, ↓AOps_ha, on_some, extK_false, extK_app, ↓then_normal, pval, hval_st, hval_mks, rd_S, rd_C, put_S, putS_none, ↓AW_toLoop, chkd, isAdr, bgot, cells_agg, partA, beq_self_eq_true, eq_self, List.replicate_succ, List.replicate_zero, List.set_cons_zero, List.set_cons_succ, List.getElem?_cons_zero, List.getElem?_cons_succ, List.drop_zero, List.take_zero, List.take_succ_cons, Option.getD_some, Option.map_some, List.length_cons, List.length_nil, Nat.reduceAdd, Nat.reduceSub, Nat.reduceLeDiff, Nat.zero_add, List.cons_append, List.nil_append, if_true, if_false, Bool.false_eq_true, and_true, hP0, bl_repl, Int.toNat_natCast, hlim, Int.le_refl, idxB, stB (mp_new A (.cells true (bl P (fun _ => false)))), mp_set]
  refine LoopK.by 58 (fun t : Nat => t ≤ P) (fun t => [(2, v), (3, .agg [I P, u]), (7, .sl 1 A.length 0 P true), (8, I t)]) (fun t => A ++ [.cells true (bl P (brnd (ks.map (rdx rs)) t (updB (fun _ => false) s true)))]) (fun t => P - t) 0 (by omega) rfl (by simp [Has, rd_s]) rfl ?_
  intro t ht
  by_cases htl : t < P
  · have htl' : (t : Int) < P := by omega
    simp (maxSteps := 4000000) -implicitDefEqProofs -dsimp (disch := omega) only [↓AW_skip, ↓AW_ops, ↓AW_seq, ↓AW_cond, ↓AW_block, ↓AOps_nil, ↓AOps_pu, on_some, condB_t, ↓then_normal, pval, rd_S, rd_C, put_S, ↓AW_toLoop, chkd, isAdr, bgot, cells_agg, partA, eq_self, mk, List.foldl_cons, List.foldl_nil, List.replicate_succ, List.replicate_zero, List.set_cons_zero, List.set_cons_succ, List.getElem?_cons_zero, List.getElem?_cons_succ, List.drop_zero, List.take_zero, List.take_succ_cons, Option.getD_some, List.length_cons, List.length_nil, Nat.reduceAdd, Nat.reduceLeDiff, Nat.zero_add, bin_lss, if_true, if_false, Bool.false_eq_true, decide_true, htl']
    refine LoopK.by 58 (fun j : Nat => j ≤ ks.length) (fun j => [(2, v), (3, .agg [I P, u]), (7, .sl 1 A.length 0 P true), (8, I t), (9, I j)]) (fun j => A ++ [.cells true (bl P (((ks.map (rdx rs)).take j).foldl bst (brnd (ks.map (rdx rs)) t (updB (fun _ => false) s true))))]) (fun j => ks.length - j) 0 (by omega) rfl (by simp [Has, rd_s]) rfl ?_
    intro j hj
    generalize hg : ((ks.map (rdx rs)).take j).foldl bst (brnd (ks.map (rdx rs)) t (updB (fun _ => false) s true)) = g
    have hxm := hx.mono (pre_app A [.cells true (bl P g)])
    have hum := hu.mono (pre_app A [.cells true (bl P g)])
    by_cases hlt : j < ks.length
    · obtain ⟨z, hz⟩ : ∃ z, ks[j]? = some z := ⟨_, List.getElem?_eq_getElem hlt⟩
      have hlt' : (j : Int) < ks.length := by omega
      obtain ⟨k0, k1⟩ := hk z (List.mem_of_getElem? hz)
      obtain ⟨hr, _⟩ := rdx_at k0 k1
      obtain ⟨⟨a0, a1⟩, ⟨b0, b1⟩⟩ := hn.inP k0 k1
      have hri := hum.idxI (k := .i64) k0 (show z < (rs.length : Int) by omega)
      have hld1 := ldB (mp_new A (.cells true (bl P g))) a0 a1
      have hld2 := ldB (mp_new A (.cells true (bl P g))) b0 b1
      have hst1 := stB (mp_new A (.cells true (bl P g))) a0 a1 true
      rw [mp_set] at hst1
      have hst2 := stB (mp_new A (.cells true (bl P (updB g (rdx rs z).1 true)))) b0 b1 true
      rw [mp_set] at hst2
      have done : ∀ g', g' = bst g (rdx rs z) → (∃ y, y ≤ ks.length ∧ A ++ [AObj.cells true (bl P g')] = A ++ [AObj.cells true (bl P (((ks.map (rdx rs)).take y).foldl bst (brnd (ks.map (rdx rs)) t (updB (fun _ => false) s true))))] ∧ y = j + 1) := by
        rintro g' rfl
        refine ⟨j + 1, hlt, ?_, rfl⟩
        rw [map_take_snoc _ hz, List.foldl_append, hg]
        rfl
      by_cases ga : g (rdx rs z).1 = true
      · obtain ⟨y, y1, y2, y3⟩ := done (updB (updB g (rdx rs z).1 true) (rdx rs z).2.1 true) (by unfold bst; rw [if_pos (.inl ga)]; rfl)
        simp (maxSteps := 4000000) -implicitDefEqProofs -dsimp (disch := omega) only [↓AW_skip, ↓AW_ops, ↓AW_seq, ↓AW_cond, ↓AW_block, ↓AOps_nil, ↓AOps_pu, ↓AOps_ld, ↓AOps_ha, ↓AOps_guard, on_some, extK_false, guardB_tf, skipS_some, condB_t, ↓then_normal, ↓inBlock_normal, pval, lval, hval_st, rd_S, rd_C, put_S, putS_none, chkd, isAdr, bput, bgot, cells_agg, splice, partA, eq_self, mk, List.foldl_cons, List.foldl_nil, List.replicate_succ, List.replicate_zero, List.set_cons_zero, List.set_cons_succ, List.getElem?_cons_zero, List.getElem?_cons_succ, List.drop_zero, List.drop_succ_cons, List.drop_nil, List.take_zero, List.take_succ_cons, List.take_nil, Option.getD_some, Option.map_some, List.length_cons, List.length_nil, Nat.reduceAdd, Nat.reduceLeDiff, Nat.reduceEqDiff, Nat.zero_add, List.nil_append, List.append_nil, bin_add, bin_lss, w64, if_true, if_false, Bool.false_eq_true, decide_true, Go.Eng.e1, true_and, ne_eq, not_true_eq_false, hlt', hxm.len, hxm.idx hlt, hxm.ld0 hz 1 false (by decide), hri, hum.ld0 hr 3 true (by decide), e3, idxB, hld1, ga, hst1, hst2]
        exact ⟨y, y1, by simp [Has, rd_s, y3], y2, by omega⟩
      · have ga' : g (rdx rs z).1 = false := by simpa using ga
        by_cases gb : g (rdx rs z).2.1 = true
        · obtain ⟨y, y1, y2, y3⟩ := done (updB (updB g (rdx rs z).1 true) (rdx rs z).2.1 true) (by unfold bst; rw [if_pos (.inr gb)]; rfl)
          simp (maxSteps := 4000000) -implicitDefEqProofs -dsimp (disch := omega) only [↓AW_skip, ↓AW_ops, ↓AW_seq, ↓AW_cond, ↓AW_block, ↓AOps_nil, ↓AOps_pu, ↓AOps_ld, ↓AOps_ha, ↓AOps_guard, on_some, extK_false, guardB_ff, condB_t, ↓then_normal, ↓inBlock_normal, pval, lval, hval_st, rd_S, rd_C, put_S, putS_none, chkd, isAdr, bput, bgot, cells_agg, splice, partA, eq_self, mk, List.foldl_cons, List.foldl_nil, List.replicate_succ, List.replicate_zero, List.set_cons_zero, List.set_cons_succ, List.getElem?_cons_zero, List.getElem?_cons_succ, List.drop_zero, List.drop_succ_cons, List.drop_nil, List.take_zero, List.take_succ_cons, List.take_nil, Option.getD_some, Option.map_some, List.length_cons, List.length_nil, Nat.reduceAdd, Nat.reduceLeDiff, Nat.reduceEqDiff, Nat.zero_add, List.nil_append, List.append_nil, bin_add, bin_lss, w64, if_true, if_false, Bool.false_eq_true, decide_true, Go.Eng.e1, true_and, ne_eq, not_true_eq_false, hlt', hxm.len, hxm.idx hlt, hxm.ld0 hz 1 false (by decide), hri, hum.ld0 hr 3 true (by decide), e3, idxB, hld1, hld2, ga', gb, hst1, hst2]
          exact ⟨y, y1, by simp [Has, rd_s, y3], y2, by omega⟩
        · have gb' : g (rdx rs z).2.1 = false := by simpa using gb
          obtain ⟨y, y1, y2, y3⟩ := done g (by unfold bst; rw [if_neg (by rw [ga', gb']; simp)])
          simp (maxSteps := 4000000) -implicitDefEqProofs -dsimp (disch := omega) only [↓AW_skip, ↓AW_ops, ↓AW_seq, ↓AW_cond, ↓AW_block, ↓AOps_nil, ↓AOps_pu, ↓AOps_ld, ↓AOps_guard, on_some, guardB_ff, condB_t, condB_f, ↓then_normal, ↓inBlock_normal, pval, lval, rd_S, rd_C, put_S, chkd, isAdr, bput, bgot, cells_agg, splice, partA, eq_self, mk, List.foldl_cons, List.foldl_nil, List.replicate_succ, List.replicate_zero, List.set_cons_zero, List.set_cons_succ, List.getElem?_cons_zero, List.getElem?_cons_succ, List.drop_zero, List.drop_succ_cons, List.drop_nil, List.take_zero, List.take_succ_cons, List.take_nil, Option.getD_some, List.length_cons, List.length_nil, Nat.reduceAdd, Nat.reduceLeDiff, Nat.reduceEqDiff, Nat.zero_add, List.nil_append, List.append_nil, bin_add, bin_lss, w64, if_true, if_false, Bool.false_eq_true, decide_true, Go.Eng.e1, true_and, ne_eq, not_true_eq_false, hlt', hxm.len, hxm.idx hlt, hxm.ld0 hz 1 false (by decide), hri, hum.ld0 hr 3 true (by decide), e3, idxB, hld1, hld2, ga', gb']
          exact ⟨y, y1, by simp [Has, rd_s, y3], y2, by omega⟩
    · have hlt' : ¬ ((j : Int) < ks.length) := by omega
      simp (maxSteps := 4000000) -implicitDefEqProofs -dsimp (disch := omega) only [↓AW_ops, ↓AW_seq, ↓AW_cond, ↓AW_exit, ↓AW_ret, ↓AOps_nil, ↓AOps_pu, on_some, condB_f, ↓then_normal, ↓then_exit, ↓inBlock_normal, ↓inBlock_exit, ↓Fin_ret, pval, rd_S, rd_C, put_S, resV, resL, eq_self, mk, List.foldl_cons, List.foldl_nil, List.replicate_succ, List.replicate_zero, List.set_cons_zero, List.set_cons_succ, List.getElem?_cons_zero, List.getElem?_cons_succ, Option.getD_some, List.length_cons, List.length_nil, Nat.reduceAdd, Nat.reduceEqDiff, Nat.zero_add, bin_add, bin_lss, w64, if_true, if_false, decide_false, true_and, reduceCtorEq, hlt', hxm.len]
      refine ⟨t + 1, htl, by simp [Has, rd_s], ?_⟩
      rw [List.take_of_length_le (by simp; omega)] at hg
      rw [← hg]
      exact ⟨rfl, by omega⟩
  · have htl' : ¬ (t : Int) < P := by omega
    have hti : t = P := by omega
    subst hti
    simp (maxSteps := 4000000) -implicitDefEqProofs -dsimp (disch := omega) only [↓AW_ops, ↓AW_seq, ↓AW_cond, ↓AW_exit, ↓AW_ret, ↓AOps_nil, ↓AOps_pu, on_some, condB_f, ↓then_normal, ↓then_exit, ↓inBlock_exit, ↓Fin_ret, pval, rd_S, put_S, resV, resL, chkd, isAdr, bgot, cells_agg, partA, eq_self, mk, List.foldl_cons, List.foldl_nil, List.replicate_succ, List.replicate_zero, List.set_cons_zero, List.set_cons_succ, List.getElem?_cons_zero, List.getElem?_cons_succ, List.drop_zero, List.take_zero, List.take_succ_cons, Option.getD_some, List.length_cons, List.length_nil, Nat.reduceAdd, Nat.reduceLeDiff, Nat.zero_add, bin_lss, if_true, if_false, Bool.false_eq_true, decide_false, htl']
    refine gc_same_all rfl ?_
    unfold rchH
    rw [bl_congr (fun p p0 p1 => brnd_cn hS s0 s1 p0 p1)]
end
end Go.Proofs.Ytkgfcdpckfhknaa

namespace Go.Proofs.Ytkgfcdpckfhknaa
open Go Go.Eng
/-- A road's cost. -/
def wct (rs : List Rd) (k : Int) : Int := (rdx rs k).2.2
theorem Net.nat {P : Int} {rs : List Rd} (h : Net P rs) : ∃ p : Nat, P = p := ⟨P.toNat, by have := h.p1; omega⟩
section
variable {P : Nat} {rs : List Rd} {ks : List Int} {u v : AV} {A : AHeap}
theorem Net.lenb {P : Int} (h : Net P rs) : 0 ≤ (rs.length : Int) ∧ (rs.length : Int) ≤ 1000000 := by have := h.l; omega
end
section
variable {Q : Int} {rs : List Rd} {ks : List Int} {u v : AV} {A : AHeap}
theorem take_succ_eq {α : Type} {xs ys : List α} {i : Nat} {z w : α} (hz : xs[i]? = some z) (hw : ys[i]? = some w) : xs.take (i + 1) = ys.take (i + 1) ↔ xs.take i = ys.take i ∧ z = w := by
  rw [List.take_add_one, List.take_add_one, hz, hw]
  have h1 := (List.getElem?_eq_some_iff.1 hz).1
  have h2 := (List.getElem?_eq_some_iff.1 hw).1
  constructor
  · intro h
    have := List.append_inj h (by rw [List.length_take, List.length_take]; omega)
    exact ⟨this.1, by simpa using this.2⟩
  · rintro ⟨h, rfl⟩
    rw [h]
theorem s49 {xs ys : List Int} {v u : AV} {A : AHeap} (hx : L1 A v xs) (hy : L1 A u ys) (hl : xs.length ≤ 1000000) : ACalls Try.prog 49 [v, u] A (B (decide (xs = ys))) A := by
  refine acalls hmix Try.func49 (by kernel_rfl) t49 2 rfl (by decide) ?_
  by_cases hle : xs.length = ys.length
  · have hle' : (xs.length : Int) = ys.length := by omega
    dsimp only [m49]
    simp (maxSteps := 4000000) -implicitDefEqProofs -dsimp (disch := omega) only [↓AW_skip, ↓AW_ops, ↓AW_seq, ↓AW_cond, ↓AW_block, ↓AOps_nil, ↓AOps_pu, on_some, condB_f, ↓then_normal, pval, rd_S, rd_C, put_S, ↓AW_toLoop, eq_self, List.replicate_succ, List.replicate_zero, List.set_cons_zero, List.set_cons_succ, List.getElem?_cons_zero, List.getElem?_cons_succ, Option.getD_some, Nat.reduceSub, List.cons_append, List.nil_append, bin_neq, decide_false, not_true_eq_false, hx.len, hy.len, hle']
    refine LoopK.by 26 (fun i : Nat => i ≤ xs.length ∧ xs.take i = ys.take i) (fun i => [(0, v), (1, u), (5, I i)]) (fun _ => A) (fun i => xs.length - i) 0 ⟨by omega, rfl⟩ rfl (by simp [Has, rd_s]) rfl ?_
    rintro i ⟨hi, he⟩
    by_cases hlt : i < xs.length
    · obtain ⟨z, hz⟩ : ∃ z, xs[i]? = some z := ⟨_, List.getElem?_eq_getElem hlt⟩
      have hlt' : (i : Int) < xs.length := by omega
      have hlt2 : i < ys.length := by omega
      obtain ⟨w, hw⟩ : ∃ w, ys[i]? = some w := ⟨_, List.getElem?_eq_getElem hlt2⟩
      by_cases hzw : z = w
      · subst hzw
        simp (maxSteps := 4000000) -implicitDefEqProofs -dsimp (disch := omega) only [↓AW_skip, ↓AW_ops, ↓AW_seq, ↓AW_cond, ↓AW_block, ↓AOps_nil, ↓AOps_pu, ↓AOps_ld, on_some, condB_t, condB_f, ↓then_normal, ↓inBlock_normal, pval, lval, rd_S, rd_C, put_S, partA, eq_self, mk, List.foldl_cons, List.foldl_nil, List.replicate_succ, List.replicate_zero, List.set_cons_zero, List.set_cons_succ, List.getElem?_cons_zero, List.getElem?_cons_succ, List.drop_zero, List.take_succ_cons, List.take_nil, Option.getD_some, List.length_cons, List.length_nil, Nat.reduceAdd, Nat.reduceLeDiff, Nat.zero_add, bin_add, bin_neq, bin_lss, w64, if_true, if_false, Bool.false_eq_true, decide_true, decide_false, Go.Eng.e1, true_and, not_true_eq_false, hlt', hx.len, hx.idx hlt, hx.ld0 hz 1 false (by decide), hy.idx hlt2, hy.ld0 hw 1 false (by decide)]
        exact ⟨i + 1, ⟨hlt, (take_succ_eq hz hw).2 ⟨he, rfl⟩⟩, by simp [Has, rd_s], by omega⟩
      · simp (maxSteps := 4000000) -implicitDefEqProofs -dsimp (disch := omega) only [↓AW_skip, ↓AW_ops, ↓AW_seq, ↓AW_cond, ↓AW_block, ↓AW_ret, ↓AOps_nil, ↓AOps_pu, ↓AOps_ld, on_some, condB_t, ↓then_normal, ↓then_ret, ↓inBlock_ret, ↓Fin_ret, pval, lval, rd_S, rd_C, put_S, resV, resL, partA, eq_self, mk, List.foldl_cons, List.foldl_nil, List.replicate_succ, List.replicate_zero, List.set_cons_zero, List.set_cons_succ, List.getElem?_cons_zero, List.getElem?_cons_succ, List.drop_zero, List.take_succ_cons, List.take_nil, Option.getD_some, List.length_cons, List.length_nil, Nat.reduceLeDiff, Nat.zero_add, bin_neq, bin_lss, if_true, if_false, Bool.false_eq_true, decide_true, Go.Eng.e1, not_false_eq_true, hlt', hx.len, hx.idx hlt, hx.ld0 hz 1 false (by decide), hy.idx hlt2, hy.ld0 hw 1 false (by decide), hzw]
        refine gc_same ?_
        have : ¬ xs = ys := by rintro rfl; rw [hz] at hw; exact hzw (Option.some.inj hw)
        simp [this]
    · have hlt' : ¬ ((i : Int) < xs.length) := by omega
      simp (maxSteps := 4000000) -implicitDefEqProofs -dsimp (disch := omega) only [↓AW_ops, ↓AW_seq, ↓AW_cond, ↓AW_exit, ↓AW_ret, ↓AOps_nil, ↓AOps_pu, on_some, condB_f, ↓then_normal, ↓then_exit, ↓inBlock_exit, ↓Fin_ret, pval, rd_S, rd_C, put_S, resV, resL, eq_self, mk, List.foldl_cons, List.foldl_nil, List.replicate_succ, List.replicate_zero, List.set_cons_zero, List.set_cons_succ, List.getElem?_cons_zero, List.getElem?_cons_succ, Option.getD_some, bin_lss, if_true, decide_false, hlt', hx.len]
      rw [List.take_of_length_le (by omega), List.take_of_length_le (by omega)] at he
      exact gc_same (by simp [he])
  · have hle' : ¬ (xs.length : Int) = ys.length := by omega
    dsimp only [m49]
    simp (maxSteps := 4000000) -implicitDefEqProofs -dsimp (disch := omega) only [↓AW_ops, ↓AW_seq, ↓AW_cond, ↓AW_ret, ↓AOps_nil, ↓AOps_pu, on_some, condB_t, ↓then_normal, ↓then_ret, ↓Fin_ret, pval, rd_S, rd_C, put_S, resV, resL, List.replicate_succ, List.replicate_zero, List.set_cons_zero, List.set_cons_succ, List.getElem?_cons_zero, List.getElem?_cons_succ, Option.getD_some, Nat.reduceSub, List.cons_append, List.nil_append, bin_neq, decide_true, not_false_eq_true, hx.len, hy.len, hle']
    have : ¬ xs = ys := by rintro rfl; exact hle rfl
    exact gc_same (by simp [this])
theorem ws_get {ws : List (AV × List Int)} {i : Nat} {x : AV × List Int} (hz : ws[i]? = some x) : (lists ws)[i]? = some x.2 := by
  rw [List.getElem?_map, hz]; rfl
theorem s29 {xs ys : List (AV × List Int)} {v u : AV} {A : AHeap} (hx : LL A v xs) (hy : LL A u ys) (hl : xs.length ≤ 1000000) (hw : ∀ w ∈ xs, w.2.length ≤ 1000000) : ACalls Try.prog 29 [v, u] A (B (decide (lists xs = lists ys))) A := by
  refine acalls hmix Try.func29 (by kernel_rfl) t29 2 rfl (by decide) ?_
  by_cases hle : xs.length = ys.length
  · have hle' : (xs.length : Int) = ys.length := by omega
    dsimp only [m29]
    simp (maxSteps := 4000000) -implicitDefEqProofs -dsimp (disch := omega) only [↓AW_skip, ↓AW_ops, ↓AW_seq, ↓AW_cond, ↓AW_block, ↓AOps_nil, ↓AOps_pu, on_some, condB_f, ↓then_normal, pval, rd_S, rd_C, put_S, ↓AW_toLoop, eq_self, List.replicate_succ, List.replicate_zero, List.set_cons_zero, List.set_cons_succ, List.getElem?_cons_zero, List.getElem?_cons_succ, Option.getD_some, Nat.reduceSub, List.cons_append, List.nil_append, bin_neq, decide_false, not_true_eq_false, hx.ls.len, hy.ls.len, hle']
    refine LoopK.by 27 (fun i : Nat => i ≤ xs.length ∧ (lists xs).take i = (lists ys).take i) (fun i => [(0, v), (1, u), (5, I i)]) (fun _ => A) (fun i => xs.length - i) 0 ⟨by omega, rfl⟩ rfl (by simp [Has, rd_s]) rfl ?_
    rintro i ⟨hi, he⟩
    by_cases hlt : i < xs.length
    · obtain ⟨z, hz⟩ : ∃ z, xs[i]? = some z := ⟨_, List.getElem?_eq_getElem hlt⟩
      have hlt' : (i : Int) < xs.length := by omega
      have hlt2 : i < ys.length := by omega
      obtain ⟨w, hw2⟩ : ∃ w, ys[i]? = some w := ⟨_, List.getElem?_eq_getElem hlt2⟩
      have hm := List.mem_of_getElem? hz
      simp (maxSteps := 4000000) -implicitDefEqProofs -dsimp (disch := omega) only [↓AW_skip, ↓AW_ops, ↓AW_seq, ↓AW_cond, ↓AW_block, ↓AOps_nil, ↓AOps_pu, ↓AOps_ld, ↓AOps_call, on_some, condB_t, ↓then_normal, pval, lval, rd_S, put_S, partA, eq_self, mk, List.foldl_cons, List.foldl_nil, List.replicate_succ, List.replicate_zero, List.set_cons_zero, List.set_cons_succ, List.getElem?_cons_zero, List.getElem?_cons_succ, List.drop_zero, List.take_succ_cons, List.take_nil, Option.getD_some, map_c, map_n, List.length_cons, List.length_nil, Nat.reduceLeDiff, Nat.zero_add, bin_lss, if_true, if_false, Bool.false_eq_true, decide_true, hlt', hx.ls.len, hx.ls.idx hlt, hx.ls.ld0 hz 1 false (by decide), hy.ls.idx hlt2, hy.ls.ld0 hw2 1 false (by decide), e0]
      refine CallK.of (s49 (hx.inn z hm) (hy.inn w (List.mem_of_getElem? hw2)) (hw z hm)) ?_
      by_cases hzw : z.2 = w.2
      · simp (maxSteps := 4000000) -implicitDefEqProofs -dsimp (disch := omega) only [↓AW_skip, ↓AW_ops, ↓AW_cond, ↓AOps_nil, ↓AOps_pu, on_some, extK_same, condB_f, ↓then_normal, ↓inBlock_normal, pval, rd_S, rd_C, put_S, eq_self, mk, List.foldl_cons, List.foldl_nil, List.replicate_succ, List.replicate_zero, List.set_cons_zero, List.set_cons_succ, List.getElem?_cons_zero, List.getElem?_cons_succ, Option.getD_some, List.length_cons, List.length_nil, Nat.reduceAdd, Nat.zero_add, bin_add, w64, Bool.not_true, decide_true, true_and, hzw]
        exact ⟨i + 1, ⟨hlt, (take_succ_eq (ws_get hz) (ws_get hw2)).2 ⟨he, hzw⟩⟩, by simp [Has, rd_s], by omega⟩
      · simp (maxSteps := 4000000) -implicitDefEqProofs -dsimp (disch := omega) only [↓AW_ops, ↓AW_seq, ↓AW_cond, ↓AW_ret, ↓AOps_nil, ↓AOps_pu, on_some, extK_same, condB_t, ↓then_normal, ↓then_ret, ↓inBlock_ret, ↓Fin_ret, pval, rd_S, rd_C, put_S, resV, resL, mk, List.foldl_cons, List.foldl_nil, List.replicate_succ, List.replicate_zero, List.set_cons_zero, List.set_cons_succ, List.getElem?_cons_zero, List.getElem?_cons_succ, Option.getD_some, Bool.not_false, decide_false, hzw]
        refine gc_same ?_
        have : ¬ lists xs = lists ys := fun e => by
          have h1 := ws_get hz
          rw [e, ws_get hw2] at h1
          exact hzw (Option.some.inj h1).symm
        simp [this]
    · have hlt' : ¬ ((i : Int) < xs.length) := by omega
      simp (maxSteps := 4000000) -implicitDefEqProofs -dsimp (disch := omega) only [↓AW_ops, ↓AW_seq, ↓AW_cond, ↓AW_exit, ↓AW_ret, ↓AOps_nil, ↓AOps_pu, on_some, condB_f, ↓then_normal, ↓then_exit, ↓inBlock_exit, ↓Fin_ret, pval, rd_S, rd_C, put_S, resV, resL, eq_self, mk, List.foldl_cons, List.foldl_nil, List.replicate_succ, List.replicate_zero, List.set_cons_zero, List.set_cons_succ, List.getElem?_cons_zero, List.getElem?_cons_succ, Option.getD_some, bin_lss, if_true, decide_false, hlt', hx.ls.len]
      rw [List.take_of_length_le (by simp; omega), List.take_of_length_le (by simp; omega)] at he
      exact gc_same (by simp [he])
  · have hle' : ¬ (xs.length : Int) = ys.length := by omega
    dsimp only [m29]
    simp (maxSteps := 4000000) -implicitDefEqProofs -dsimp (disch := omega) only [↓AW_ops, ↓AW_seq, ↓AW_cond, ↓AW_ret, ↓AOps_nil, ↓AOps_pu, on_some, condB_t, ↓then_normal, ↓then_ret, ↓Fin_ret, pval, rd_S, rd_C, put_S, resV, resL, List.replicate_succ, List.replicate_zero, List.set_cons_zero, List.set_cons_succ, List.getElem?_cons_zero, List.getElem?_cons_succ, Option.getD_some, Nat.reduceSub, List.cons_append, List.nil_append, bin_neq, decide_true, not_false_eq_true, hx.ls.len, hy.ls.len, hle']
    have : ¬ lists xs = lists ys := fun e => by
      have := congrArg List.length e
      simp at this
      exact hle this
    exact gc_same (by simp [this])
theorem s17 (hu : L3 A u rs) (P : Int) : ACalls Try.prog 17 [.agg [I P, u]] A (B (decide ((100 : Int) < rs.length))) A := by
  refine acalls hmix Try.func17 (by kernel_rfl) t17 1 rfl (by decide) ?_
  dsimp only [m17]
  simp (maxSteps := 4000000) -implicitDefEqProofs -dsimp (disch := omega) only [↓AW_ops, ↓AW_seq, ↓AW_ret, ↓AOps_nil, ↓AOps_pu, on_some, ↓then_normal, ↓Fin_ret, pval, rd_S, rd_C, put_S, resV, resL, chkd, isAdr, bgot, AV.cells?, partA, eq_self, List.replicate_succ, List.replicate_zero, List.set_cons_zero, List.set_cons_succ, List.getElem?_cons_zero, List.getElem?_cons_succ, List.drop_zero, List.drop_succ_cons, List.take_succ_cons, List.take_nil, Option.getD_some, List.length_cons, List.length_nil, Nat.reduceAdd, Nat.reduceSub, Nat.reduceLeDiff, Nat.zero_add, List.cons_append, List.nil_append, bin_gtr, if_true, if_false, Bool.false_eq_true, hu.len]
  exact gc_same rfl
end
end Go.Proofs.Ytkgfcdpckfhknaa

namespace Go.Proofs.Ytkgfcdpckfhknaa
open Go Go.Eng
/-- The first elements are in order. -/
def SU (w : Int → Int) (zs : List Int) (i : Nat) : Prop := ∀ (p q : Nat) (a b : Int), p < q → q < i → zs[p]? = some a → zs[q]? = some b → w a ≤ w b
theorem SU.one (w : Int → Int) (zs : List Int) : SU w zs 1 := fun p q a b h k => by omega
theorem SU.zero (w : Int → Int) (zs : List Int) : SU w zs 0 := fun p q a b h k => by omega
theorem SU.all {w : Int → Int} {zs : List Int} (h : SU w zs zs.length) : zs.Pairwise (fun a b => w a ≤ w b) := by
  rw [List.pairwise_iff_getElem]
  intro i j hi hj hij
  exact h i j _ _ hij hj (List.getElem?_eq_getElem hi) (List.getElem?_eq_getElem hj)
/-- An element that goes down to its place. -/
structure IS (w : Int → Int) (xs zs : List Int) (i j : Nat) : Prop where
  perm : zs.Perm xs
  a : ∀ (p q : Nat) (a b : Int), p < q → q ≤ i → p ≠ j → q ≠ j → zs[p]? = some a → zs[q]? = some b → w a ≤ w b
  b : ∀ (q : Nat) (x y : Int), j < q → q ≤ i → zs[j]? = some x → zs[q]? = some y → w x ≤ w y
theorem IS.zero {w : Int → Int} {xs zs : List Int} {i : Nat} (h : IS w xs zs i 0) : SU w zs (i + 1) := by
  intro p q a b h1 h2 h3 h4
  by_cases hp : p = 0
  · subst hp
    exact h.b q a b h1 (by omega) h3 h4
  · exact h.a p q a b h1 (by omega) hp (by omega) h3 h4
section
variable {P : Nat} {rs : List Rd} {ks : List Int} {u v : AV} {A : AHeap}
/-- The numbers of all roads. -/
abbrev nums (rs : List Rd) : List Int := plc rs.length
/-- The numbers of all roads, the cheapest first. -/
structure Ord (rs : List Rd) (L : List Int) : Prop where
  p : L.Perm (nums rs)
  s : L.Pairwise (fun a b => wct rs a ≤ wct rs b)
theorem Ord.len {L : List Int} (h : Ord rs L) : L.length = rs.length := by rw [h.p.length_eq, plc_len]
end
end Go.Proofs.Ytkgfcdpckfhknaa

namespace Go.Proofs.Ytkgfcdpckfhknaa
open Go Go.Eng
section
variable {P : Nat} {rs : List Rd} {ks : List Int} {u v : AV} {A : AHeap}
theorem Nos.take {L : List Int} (h : Nos rs L) (i : Nat) : Nos rs (L.take i) := fun k hk => h k (List.mem_of_mem_take hk)
end
end Go.Proofs.Ytkgfcdpckfhknaa

namespace Go.Proofs.Ytkgfcdpckfhknaa
open Go Go.Eng
def bset (m s : Nat) : List Int := (plc m).filter (fun i => s.testBit i.toNat)
section
variable {P : Nat} {rs : List Rd}
theorem okS_nos {l : List Int} (h : okS rs.length l) : Nos rs l := fun k hk => by have := h.1 k hk; omega
/-- All places can be joined. -/
def Jbl (P : Nat) (rs : List Rd) : Prop := comps P ((nums rs).map (rdx rs)) = 1
end
end Go.Proofs.Ytkgfcdpckfhknaa

namespace Go.Proofs.Ytkgfcdpckfhknaa
open Go Go.Eng
section
variable {P : Nat} {rs : List Rd} {ks : List Int} {u v : AV} {A : AHeap}
/-- A list that the call has made, as a row. -/
theorem row_of {A1 H G : AHeap} {y z : AV} {ws : List (AV × List Int)} {xs : List Int} (hnl : NL A1 H y ws) (hac : AccL 1 e1 H G z xs) (hA1 : xs = [] ∨ 0 < A1.length) (hl : ws.length + 1 ≤ lim) : z.cells? = some [z] ∧
    ∃ v' H2, appA 1 (G ++ [.cells true [z]]) y (.sl 1 G.length 0 1 true) = some (v', H2) ∧ NL A1 H2 v' (ws ++ [(z, xs)]) := by
  rcases hac.2.2 with ⟨h3, h4⟩ | ⟨h3, n, h4, h5, h6⟩
  · have hx : xs = [] := List.eq_nil_of_length_eq_zero h3
    subst hx
    rw [h4]
    refine ⟨rfl, ?_⟩
    exact (hnl.mono hac.1).push (.nilS, []) (.inl ⟨rfl, rfl, trivial⟩) hl
  · have hpos : 0 < A1.length := by
      rcases hA1 with e | e
      · rw [e] at h3; simp at h3
      · exact e
    refine ⟨by rw [h4]; rfl, ?_⟩
    exact (hnl.mono hac.1).push (z, xs) (.inr ⟨n, false, [], h4, Nat.le_trans hnl.acc.1.length_le h5, by rw [List.append_nil]; exact h6, nm_ne_nil hnl h5 hpos, fun y hy => (hnl.lt.1 y hy).imp id (fun h => by omega)⟩) hl
end
section
variable {Q : Int} {rs : List Rd} {u : AV} {A : AHeap}
end
end Go.Proofs.Ytkgfcdpckfhknaa

namespace Go.Proofs.Ytkgfcdpckfhknaa
open Go Go.Eng
/-- Rows of another list, put together anew. -/
structure Sel (A H : AHeap) (v : AV) (ws : List (AV × List Int)) : Prop where
  acc : AccL 1 e0 A H v ws
  inn : ∀ x ∈ ws, L1 A x.1 x.2
theorem Sel.ll {A H : AHeap} {v : AV} {ws : List (AV × List Int)} (h : Sel A H v ws) : LL H v ws := ⟨AccL_ls h.acc e0_len, fun x hx => (h.inn x hx).mono h.acc.1⟩
theorem Sel.nil {A H : AHeap} (h : A <+: H) : Sel A H .nilS [] := ⟨AccL.nil h, by simp⟩
theorem Sel.push {A H : AHeap} {v : AV} {ws : List (AV × List Int)} (h : Sel A H v ws) {x : AV × List Int} (hx : L1 A x.1 x.2) (hl : ws.length + 1 ≤ lim) :
    ∃ v' H2, appA 1 (H ++ [.cells true [x.1]]) v (.sl 1 H.length 0 1 true) = some (v', H2) ∧ Sel A H2 v' (ws ++ [x]) ∧ v'.cells? = some [v'] := by
  obtain ⟨v', H2, happ, hacc⟩ := h.acc.push e0_len x hl
  refine ⟨v', H2, happ, ⟨hacc, fun y hy => ?_⟩, Ls_cells (AccL_ls hacc e0_len)⟩
  rcases List.mem_append.1 hy with hy | hy
  · exact h.inn y hy
  · have : y = x := by simpa using hy
    rw [this]; exact hx
section
variable {P : Nat} {rs : List Rd} {ks : List Int} {u v : AV} {A : AHeap}
noncomputable instance jblDec (P : Nat) (rs : List Rd) : Decidable (Jbl P rs) := by unfold Jbl; infer_instance
end
section
variable {Q : Int} {rs : List Rd} {ks : List Int} {u v : AV} {A : AHeap}
end
section
variable {P : Nat} {rs : List Rd} {ks : List Int} {u v : AV} {A : AHeap}
end
end Go.Proofs.Ytkgfcdpckfhknaa

namespace Go.Proofs.Ytkgfcdpckfhknaa
open Go Go.Eng
/-- selion/selionlaw04.RoadRanges [] -/
def m3 : MFun := ⟨44, [2], [.mov (.s 4)],
 .seq (.ops [⟨(some 2), some (.junk), none, false, .pu (.bnew (.s 0))⟩,
   ⟨(some 4), some undefA, none, false, .pu (.mov (.c (.bool false)))⟩])
 (.seq (.seq (.ops [⟨(some 11), some undefA, none, false, .pu (.bget none 2 0 2 true)⟩,
   ⟨(some 12), some undefA, none, false, .call 17 [(.s 11)]⟩])
 (.cond (.s 12) (.seq (.ops [⟨(some 13), some undefA, none, false, .call 18 []⟩,
    ⟨(some 4), some undefA, none, false, .pu (.mov (.s 13))⟩])
  (.ret))
 (.skip)))
 (.seq (.ops [⟨(some 15), some undefA, none, false, .pu (.bget none 2 0 2 true)⟩,
   ⟨(some 16), some undefA, none, false, .pu (.mov (.s 1))⟩,
   ⟨(some 17), some undefA, none, false, .call 19 [(.s 15), (.s 16)]⟩,
   ⟨(some 14), some undefA, none, false, .pu (.mov (.s 17))⟩,
   ⟨(some 18), some undefA, none, false, .pu (.extr 0 (.s 14))⟩,
   ⟨(some 19), some undefA, none, false, .pu (.extr 1 (.s 14))⟩,
   ⟨(some 20), some undefA, none, false, .pu (.extr 2 (.s 14))⟩,
   ⟨(some 5), some undefA, none, false, .pu (.mov (.s 18))⟩,
   ⟨(some 6), some undefA, none, false, .pu (.mov (.s 19))⟩,
   ⟨(some 7), some undefA, none, false, .pu (.mov (.s 20))⟩])
 (.seq (.ops [⟨(some 22), some undefA, none, false, .pu (.bget none 2 0 2 true)⟩,
   ⟨(some 23), some undefA, none, false, .pu (.mov (.s 1))⟩,
   ⟨(some 24), some undefA, none, false, .call 20 [(.s 22), (.s 23)]⟩,
   ⟨(some 21), some undefA, none, false, .pu (.mov (.s 24))⟩,
   ⟨(some 25), some undefA, none, false, .pu (.extr 0 (.s 21))⟩,
   ⟨(some 26), some undefA, none, false, .pu (.extr 1 (.s 21))⟩,
   ⟨(some 27), some undefA, none, false, .pu (.extr 2 (.s 21))⟩,
   ⟨(some 8), some undefA, none, false, .pu (.mov (.s 25))⟩,
   ⟨(some 9), some undefA, none, false, .pu (.mov (.s 26))⟩,
   ⟨(some 10), some undefA, none, false, .pu (.mov (.s 27))⟩])
 (.seq (.ops [⟨(some 28), some undefA, none, false, .pu (.mov (.s 5))⟩,
   ⟨(some 29), some undefA, none, false, .pu (.mov (.s 8))⟩,
   ⟨(some 30), some undefA, none, false, .pu (.bin .eql (.s 28) (.s 29))⟩,
   ⟨(some 31), some undefA, none, false, .pu (.mov (.s 30))⟩,
   ⟨(some 32), some undefA, (some (31, true)), false, .pu (.mov (.s 6))⟩,
   ⟨(some 33), some undefA, (some (31, true)), false, .pu (.mov (.s 9))⟩,
   ⟨(some 34), some undefA, (some (31, true)), false, .pu (.eqb false (.s 32) (.s 33))⟩,
   ⟨(some 35), some undefA, none, false, .pu (.pick (.s 31) (.s 34) (.c (.bool false)))⟩,
   ⟨(some 36), some undefA, none, false, .pu (.mov (.s 35))⟩,
   ⟨(some 37), some undefA, (some (36, true)), false, .pu (.mov (.s 7))⟩,
   ⟨(some 38), some undefA, (some (36, true)), false, .pu (.mov (.s 10))⟩,
   ⟨(some 39), some undefA, (some (36, true)), false, .pu (.bin .eql (.s 37) (.s 38))⟩,
   ⟨(some 40), some undefA, none, false, .pu (.pick (.s 36) (.s 39) (.c (.bool false)))⟩,
   ⟨(some 41), some undefA, none, false, .pu (.mov (.s 40))⟩,
   ⟨(some 42), some undefA, (some (41, true)), false, .call 18 []⟩,
   ⟨(some 43), some undefA, none, false, .pu (.pick (.s 41) (.s 42) (.c (.bool false)))⟩,
   ⟨(some 4), some undefA, none, false, .pu (.mov (.s 43))⟩])
 (.ret)))))⟩
/-- selion/selionlaw04.RoadGroups [] -/
def m6 : MFun := ⟨47, [2], [.mov (.s 4)],
 .seq (.ops [⟨(some 2), some (.junk), none, false, .pu (.bnew (.s 0))⟩,
   ⟨(some 4), some undefA, none, false, .pu (.mov (.c (.bool false)))⟩])
 (.seq (.seq (.ops [⟨(some 9), some undefA, none, false, .pu (.bget none 2 0 2 true)⟩,
   ⟨(some 10), some undefA, none, false, .call 17 [(.s 9)]⟩,
   ⟨(some 11), some undefA, none, false, .pu (.mov (.s 10))⟩,
   ⟨(some 12), some undefA, (some (11, false)), false, .pu (.mov (.s 1))⟩,
   ⟨(some 13), some undefA, (some (11, false)), false, .pu (.len (.s 12))⟩,
   ⟨(some 14), some undefA, (some (11, false)), false, .pu (.bin .gtr (.s 13) (.c (.int .i64 100)))⟩,
   ⟨(some 15), some undefA, none, false, .pu (.pick (.s 11) (.c (.bool true)) (.s 14))⟩])
 (.cond (.s 15) (.seq (.ops [⟨(some 16), some undefA, none, false, .call 18 []⟩,
    ⟨(some 4), some undefA, none, false, .pu (.mov (.s 16))⟩])
  (.ret))
 (.skip)))
 (.seq (.ops [⟨(some 18), some undefA, none, false, .pu (.bget none 2 0 2 true)⟩,
   ⟨(some 19), some undefA, none, false, .pu (.mov (.s 1))⟩,
   ⟨(some 20), some undefA, none, false, .call 26 [(.s 18), (.s 19)]⟩,
   ⟨(some 17), some undefA, none, false, .pu (.mov (.s 20))⟩,
   ⟨(some 21), some undefA, none, false, .pu (.extr 0 (.s 17))⟩,
   ⟨(some 22), some undefA, none, false, .pu (.extr 1 (.s 17))⟩,
   ⟨(some 5), some undefA, none, false, .pu (.mov (.s 21))⟩,
   ⟨(some 6), some undefA, none, false, .pu (.mov (.s 22))⟩])
 (.seq (.ops [⟨(some 24), some undefA, none, false, .pu (.bget none 2 0 2 true)⟩,
   ⟨(some 25), some undefA, none, false, .pu (.mov (.s 1))⟩,
   ⟨(some 26), some undefA, none, false, .call 27 [(.s 24), (.s 25)]⟩,
   ⟨(some 23), some undefA, none, false, .pu (.mov (.s 26))⟩,
   ⟨(some 27), some undefA, none, false, .pu (.extr 0 (.s 23))⟩,
   ⟨(some 28), some undefA, none, false, .pu (.extr 1 (.s 23))⟩,
   ⟨(some 7), some undefA, none, false, .pu (.mov (.s 27))⟩,
   ⟨(some 8), some undefA, none, false, .pu (.mov (.s 28))⟩])
 (.seq (.ops [⟨(some 29), some undefA, none, false, .pu (.bget none 2 0 2 true)⟩,
   ⟨(some 30), some undefA, none, false, .call 28 [(.s 29)]⟩,
   ⟨(some 31), some undefA, none, false, .pu (.bget none 2 0 2 true)⟩,
   ⟨(some 32), some undefA, none, false, .call 22 [(.s 31)]⟩,
   ⟨(some 33), some undefA, none, false, .pu (.bin .eql (.s 30) (.s 32))⟩,
   ⟨(some 34), some undefA, none, false, .pu (.mov (.s 33))⟩,
   ⟨(some 35), some undefA, (some (34, true)), false, .pu (.mov (.s 6))⟩,
   ⟨(some 36), some undefA, (some (34, true)), false, .pu (.mov (.s 8))⟩,
   ⟨(some 37), some undefA, (some (34, true)), false, .pu (.bin .eql (.s 35) (.s 36))⟩,
   ⟨(some 38), some undefA, none, false, .pu (.pick (.s 34) (.s 37) (.c (.bool false)))⟩,
   ⟨(some 39), some undefA, none, false, .pu (.mov (.s 38))⟩,
   ⟨(some 40), some undefA, (some (39, true)), false, .pu (.mov (.s 5))⟩,
   ⟨(some 41), some undefA, (some (39, true)), false, .pu (.mov (.s 7))⟩,
   ⟨(some 42), some undefA, (some (39, true)), false, .call 29 [(.s 40), (.s 41)]⟩,
   ⟨(some 43), some undefA, none, false, .pu (.pick (.s 39) (.s 42) (.c (.bool false)))⟩,
   ⟨(some 44), some undefA, none, false, .pu (.mov (.s 43))⟩,
   ⟨(some 45), some undefA, (some (44, true)), false, .call 18 []⟩,
   ⟨(some 46), some undefA, none, false, .pu (.pick (.s 44) (.s 45) (.c (.bool false)))⟩,
   ⟨(some 4), some undefA, none, false, .pu (.mov (.s 46))⟩])
 (.ret)))))⟩
theorem t6 : trF Try.prog [2] [] Try.f6 = some m6 := by kernel_rfl
end Go.Proofs.Ytkgfcdpckfhknaa

namespace Go.Proofs.Ytkgfcdpckfhknaa
open Go Go.Eng
section
variable {Q : Int} {rs : List Rd} {ks : List Int} {u v : AV} {A : AHeap}
end
end Go.Proofs.Ytkgfcdpckfhknaa

namespace Go.Proofs.Ytkgfcdpckfhknaa
open Go Go.Eng
theorem pre_set2 {B H : AHeap} (h : B <+: H) {m : Nat} (hm : m < B.length) (o : AObj) : B.set m o <+: H.set m o := by
  obtain ⟨X, rfl⟩ := h
  rw [List.set_append_left _ _ hm]
  exact List.prefix_append _ _
theorem AccL_setb {α : Type} {es : Nat} {e : α → List AV} {B H : AHeap} {v : AV} {xs : List α} (h : AccL es e B H v xs) {m : Nat} (hm : m < B.length) (o : AObj) : AccL es e (B.set m o) (H.set m o) v xs := by
  refine ⟨pre_set2 h.1 hm o, h.2.1, ?_⟩
  rcases h.2.2 with h3 | ⟨h3, n, h4, h5, h6⟩
  · exact .inl h3
  · refine .inr ⟨h3, n, h4, by rw [List.length_set]; exact h5, ?_⟩
    rw [List.getElem?_set, if_neg (by omega)]
    exact h6
theorem NL_setb {B H : AHeap} {v : AV} {ws : List (AV × List Int)} (h : NL B H v ws) {m : Nat} (hm : m < B.length) (o : AObj) : NL (B.set m o) (H.set m o) v ws := by
  refine ⟨AccL_setb h.acc hm o, fun x hx => ⟨?_⟩, h.apart⟩
  rcases (h.rows x hx).row with h1 | ⟨n, full, cs, g1, g2, g3, g4⟩
  · exact .inl h1
  · refine .inr ⟨n, full, cs, g1, by rw [List.length_set]; exact g2, ?_, g4⟩
    rw [List.getElem?_set, if_neg (by omega)]
    exact g3
section
variable {P : Nat} {rs : List Rd} {ks : List Int} {u v : AV} {A : AHeap}
/-- Which places are done: those of the groups before, and those of this group up to a place. -/
noncomputable def dn (S : List Rd) (i : Nat) (j : Nat) (p : Int) : Bool := decide (lab S p < i ∨ (lab S p = i ∧ p < j))
theorem dn_0 (S : List Rd) {p : Int} (p0 : 0 ≤ p) : dn S 0 0 p = false := by
  unfold dn
  refine decide_eq_false (fun h => ?_)
  have := (lab_spec S p0).1
  omega
theorem dn_step (S : List Rd) (i j : Nat) (hl : lab S (j : Int) = i) : ∀ p : Int, 0 ≤ p → updB (dn S i j) (j : Int) true p = dn S i (j + 1) p := by
  intro p p0
  unfold updB dn
  by_cases h : p = (j : Int)
  · rw [if_pos h, h]
    exact (decide_eq_true (.inr ⟨hl, by omega⟩)).symm
  · rw [if_neg h, decide_eq_decide]
    omega
theorem dn_skip (S : List Rd) (i j : Nat) (hl : ¬ lab S (j : Int) = i) : ∀ p : Int, 0 ≤ p → dn S i j p = dn S i (j + 1) p := by
  intro p p0
  unfold dn
  rw [decide_eq_decide]
  constructor
  · rintro (h | h)
    · exact .inl h
    · exact .inr ⟨h.1, by omega⟩
  · rintro (h | h)
    · exact .inl h
    · refine .inr ⟨h.1, ?_⟩
      have : p ≠ (j : Int) := fun e => hl (by rw [← e]; exact h.1)
      omega
theorem dn_next (S : List Rd) (i : Nat) {P : Nat} : ∀ p : Int, 0 ≤ p → p < P → dn S i P p = dn S (i + 1) 0 p := by
  intro p p0 p1
  unfold dn
  rw [decide_eq_decide]
  omega
theorem dn_no (S : List Rd) (i : Nat) (h : ¬ Root S (i : Int)) : ∀ p : Int, 0 ≤ p → dn S i 0 p = dn S (i + 1) 0 p := by
  intro p p0
  unfold dn
  rw [decide_eq_decide]
  have h1 : ¬ lab S p = (i : Int) := fun e => h (by rw [← e]; exact (lab_spec S p0).2.2.2)
  omega
set_option maxRecDepth 20000 in
set_option maxHeartbeats 8000000 in
theorem c_groups2 (hu : L3 A u rs) (hx : L1 A v ks) (hn : Net P rs) (hok : okS rs.length ks) (hl : ks.length ≤ 1000000) : ∃ t H, ACalls Try.prog 27 [.agg [I P, u], v] A t H ∧ ∃ r, t = .tuple [r, I 0] ∧ A <+: H ∧ ∃ ws, LL H r ws ∧ lists ws = grp P (ks.map (rdx rs)) := by
  refine acallsR hmix Try.func27 (by kernel_rfl) t27 _ 2 rfl (by decide) ?_
  have hP7 := hn.p7
  have hP1 := hn.p1
  have hk := okS_nos hok
  have hP0 : (0 : Int) ≤ P := by omega
  have hlim : (P : Int) ≤ (lim : Nat) := by simp only [lim]; omega
  dsimp only [m27]
  simp (maxSteps := 4000000) -implicitDefEqProofs -dsimp (disch := omega) only [↓AW_ops, ↓AW_seq, ↓AOps_nil, ↓AOps_pu, ↓AOps_call, on_some, ↓then_normal, pval, rd_S, rd_C, put_S, chkd, bgot, cells_agg, partA, eq_self, List.replicate_succ, List.replicate_zero, List.set_cons_zero, List.set_cons_succ, List.getElem?_cons_zero, List.getElem?_cons_succ, List.drop_zero, List.take_succ_cons, List.take_nil, Option.getD_some, map_c, map_n, List.length_cons, List.length_nil, Nat.reduceAdd, Nat.reduceSub, Nat.reduceLeDiff, Nat.reduceEqDiff, Nat.zero_add, List.cons_append, List.nil_append, if_true, if_false]
  refine CallK.of (s22 hu ⟨by omega, by omega⟩) ?_
  rw [vE_0.2 hn]
  simp (maxSteps := 4000000) -implicitDefEqProofs -dsimp (disch := omega) only [↓AW_skip, ↓AW_ops, ↓AW_seq, ↓AW_cond, ↓AOps_nil, ↓AOps_pu, ↓AOps_call, on_some, extK_same, condB_f, ↓then_normal, pval, rd_S, rd_C, put_S, chkd, isAdr, bgot, cells_agg, partA, eq_self, List.replicate_succ, List.replicate_zero, List.set_cons_zero, List.set_cons_succ, List.getElem?_cons_zero, List.getElem?_cons_succ, List.drop_zero, List.drop_succ_cons, List.take_succ_cons, List.take_nil, Option.getD_some, map_c, map_n, List.length_cons, List.length_nil, Nat.reduceAdd, Nat.reduceSub, Nat.reduceLeDiff, Nat.zero_add, List.cons_append, List.nil_append, bin_neq, if_true, if_false, Bool.false_eq_true, decide_false, not_true_eq_false, hu.len]
  refine CallK.of (s75 hx hl hn.lenb) ?_
  rw [decide_eq_true hok]
  simp (maxSteps := 4000000) -implicitDefEqProofs -dsimp (disch := omega) only [↓AW_skip, ↓AW_ops, ↓AW_seq, ↓AW_cond, ↓AW_block, ↓AOps_nil, ↓AOps_pu, ↓AOps_ha, on_some, extK_app, extK_same, condB_f, ↓then_normal, pval, hval_mks, rd_S, rd_C, put_S, ↓AW_toLoop, chkd, isAdr, bgot, cells_agg, partA, beq_self_eq_true, eq_self, List.replicate_succ, List.replicate_zero, List.set_cons_zero, List.set_cons_succ, List.getElem?_cons_zero, List.getElem?_cons_succ, List.drop_zero, List.take_zero, List.take_succ_cons, Option.getD_some, List.length_cons, List.length_nil, Nat.reduceAdd, Nat.reduceSub, Nat.reduceLeDiff, Nat.zero_add, List.cons_append, List.nil_append, if_true, if_false, Bool.false_eq_true, Bool.not_true, and_true, hP0, hlim, Int.le_refl, Int.toNat_natCast, bl_repl]
  generalize hS : ks.map (rdx rs) = S at *
  have hb0 : bl P (fun _ => false) = bl P (dn S 0 0) := bl_congr (fun p p0 _ => (dn_0 S p0).symm)
  rw [hb0]
  refine LoopK.by 63 (fun x : Nat × AV × AHeap × List (AV × List Int) => x.1 ≤ P ∧ NL (A ++ [.cells true (bl P (dn S x.1 0))]) x.2.2.1 x.2.1 x.2.2.2 ∧ lists x.2.2.2 = ((plc x.1).filter (fun p => decide (Root S p))).map (fun p => (plc P).filter (fun q => decide (lab S q = p))))
    (fun z => [(1, v), (2, .agg [I P, u]), (7, z.2.1), (8, .sl 1 A.length 0 P true), (9, I z.1)]) (fun z => z.2.2.1) (fun z => P - z.1) (0, .nilS, A ++ [.cells true (bl P (dn S 0 0))], []) ⟨by simp only; omega, NL.nil (List.prefix_refl _), rfl⟩ rfl (by simp [Has, rd_s]) rfl ?_
  rintro ⟨i, y, H, ws⟩ ⟨hi, hnl, hli⟩
  simp only at hi hnl hli
  have hpA := (pre_app A [.cells true (bl P (dn S i 0))]).trans hnl.acc.1
  have huH := hu.mono hpA
  have hxH := hx.mono hpA
  have hdo := pre_get hnl.acc.1 (mp_new A (.cells true (bl P (dn S i 0))))
  by_cases hlt : i < P
  · have hlt' : (i : Int) < P := by omega
    have hld := ldB hdo (k := (i : Int)) (by omega) hlt'
    by_cases hr : Root S (i : Int)
    · have hlab := (lab_self_iff (by omega)).2 hr
      have hd : dn S i 0 (i : Int) = false := by
        unfold dn
        refine decide_eq_false (fun h => ?_)
        rw [hlab] at h
        omega
      rw [hd] at hld
      simp (maxSteps := 4000000) -implicitDefEqProofs -dsimp (disch := omega) only [↓AW_skip, ↓AW_ops, ↓AW_seq, ↓AW_cond, ↓AW_block, ↓AOps_nil, ↓AOps_pu, ↓AOps_ld, ↓AOps_call, on_some, condB_t, condB_f, ↓then_normal, pval, lval, rd_S, put_S, chkd, isAdr, bgot, cells_agg, partA, eq_self, mk, List.foldl_cons, List.foldl_nil, List.replicate_succ, List.replicate_zero, List.set_cons_zero, List.set_cons_succ, List.getElem?_cons_zero, List.getElem?_cons_succ, List.drop_zero, List.take_zero, List.take_succ_cons, List.take_nil, Option.getD_some, map_c, map_n, List.length_cons, List.length_nil, Nat.reduceAdd, Nat.reduceLeDiff, Nat.reduceEqDiff, Nat.zero_add, bin_lss, if_true, if_false, Bool.false_eq_true, decide_true, hlt', idxB, hld]
      have h66 := s66 huH hxH hn hk hl (s := (i : Int)) (by omega) hlt'
      rw [hS] at h66
      refine CallK.of h66 ?_
      have hpr : H <+: rchH H P S (i : Int) := pre_app _ _
      have hmr : (rchH H P S (i : Int))[H.length]? = some (.cells true (bl P (fun p => decide (Cn S (i : Int) p)))) := mp_new _ _
      have hnl1 := hnl.mono hpr
      have hAH : A.length < H.length := (List.getElem?_eq_some_iff.1 hdo).1
      have hHH : H.length < (rchH H P S (i : Int)).length := (List.getElem?_eq_some_iff.1 hmr).1
      generalize rchH H P S (i : Int) = H1 at *
      simp (maxSteps := 4000000) -implicitDefEqProofs -dsimp (disch := omega) only [↓AW_ops, ↓AW_seq, ↓AW_block, ↓AOps_nil, ↓AOps_pu, on_some, extK_false, ↓then_normal, pval, rd_S, rd_C, put_S, ↓AW_toLoop, mk, List.foldl_cons, List.foldl_nil, List.replicate_succ, List.replicate_zero, List.set_cons_zero, List.set_cons_succ, List.getElem?_cons_zero, List.getElem?_cons_succ, Option.getD_some]
      refine LoopK.by 63 (fun x : Nat × AV × AHeap × AHeap => x.1 ≤ P ∧ NL (A ++ [.cells true (bl P (dn S i x.1))]) x.2.2.2 y ws ∧ x.2.2.2[H.length]? = some (.cells true (bl P (fun p => decide (Cn S (i : Int) p)))) ∧ AccL 1 e1 x.2.2.2 x.2.2.1 x.2.1 ((plc x.1).filter (fun q => decide (lab S q = (i : Int)))))
        (fun z => [(1, v), (2, .agg [I P, u]), (7, y), (8, .sl 1 A.length 0 P true), (9, I i), (10, .sl 1 H.length 0 P true), (11, z.2.1), (12, I z.1)]) (fun z => z.2.2.1) (fun z => P - z.1) (0, .nilS, H1, H1) ⟨by simp only; omega, hnl1, hmr, AccL.nil (List.prefix_refl _)⟩ rfl (by simp [Has, rd_s]) rfl ?_
      rintro ⟨j, z, G, K⟩ ⟨hj, hnk, hmk, hac⟩
      simp only at hj hnk hmk hac
      have hmG := pre_get hac.1 hmk
      by_cases hjl : j < P
      · have hjl' : (j : Int) < P := by omega
        have hldj := ldB hmG (k := (j : Int)) (by omega) hjl'
        by_cases hq : lab S (j : Int) = (i : Int)
        · have hcn : Cn S (i : Int) (j : Int) := by
            have := (lab_spec S (p := (j : Int)) (by omega)).2.2.1
            rw [hq] at this
            exact this
          rw [decide_eq_true hcn] at hldj
          have hdK := pre_get hnk.acc.1 (mp_new A (.cells true (bl P (dn S i j))))
          have hdG := pre_get hac.1 hdK
          have hAK : A.length < K.length := (List.getElem?_eq_some_iff.1 hdK).1
          have hst := stB hdG (k := (j : Int)) (by omega) hjl' true
          have hbl : bl P (updB (dn S i j) (j : Int) true) = bl P (dn S i (j + 1)) := bl_congr (fun p p0 _ => dn_step S i j hq p p0)
          rw [hbl] at hst
          have hac2 := AccL_setb hac hAK (.cells true (bl P (dn S i (j + 1))))
          have hnk2 := NL_setb hnk (m := A.length) (by simp) (.cells true (bl P (dn S i (j + 1))))
          rw [mp_set] at hnk2
          have hmk2 : (K.set A.length (.cells true (bl P (dn S i (j + 1)))))[H.length]? = some (.cells true (bl P (fun p => decide (Cn S (i : Int) p)))) := by
            rw [List.getElem?_set, if_neg (by omega)]
            exact hmk
          have hfl := filt_len (fun q => decide (lab S q = (i : Int))) j
          obtain ⟨v', H2, happ, hacc, _, n, len, rfl, _⟩ := AccL_push2 hac2 e1_len (by omega) (j : Int) (by simp only [lim]; omega)
          simp only [Go.Eng.e1] at happ
          simp (maxSteps := 4000000) -implicitDefEqProofs -dsimp (disch := omega) only [↓AW_skip, ↓AW_ops, ↓AW_seq, ↓AW_cond, ↓AW_block, ↓AOps_nil, ↓AOps_pu, ↓AOps_ld, ↓AOps_ha, on_some, extK_false, extK_app, condB_t, ↓then_normal, ↓inBlock_normal, pval, lval, hval_st, hval_blds, hval_app, rd_S, rd_C, put_S, putS_none, chkd, isAdr, bgot, cells_agg, cells_int, splice, partA, fillA, repl, eq_self, mk, List.foldl_cons, List.foldl_nil, List.replicate_succ, List.replicate_zero, List.set_cons_zero, List.set_cons_succ, List.getElem?_cons_zero, List.getElem?_cons_succ, List.drop_zero, List.drop_succ_cons, List.drop_nil, List.take_zero, List.take_succ_cons, Option.getD_some, Option.map_some, map_c, map_n, List.length_cons, List.length_nil, Nat.reduceAdd, Nat.reduceLeDiff, Nat.zero_add, List.nil_append, List.append_nil, bin_add, bin_lss, w64, if_true, if_false, Bool.false_eq_true, decide_true, true_and, and_true, hjl', idxB, hldj, hst, happ, List.replicate_zero, repl]
          refine ⟨(j + 1, .sl 1 n 0 len false, H2, K.set A.length (.cells true (bl P (dn S i (j + 1))))), ⟨hjl, hnk2, hmk2, ?_⟩, by simp [Has, rd_s], rfl, by simp only; omega⟩
          simp only
          rw [filt_succ, if_pos (decide_eq_true hq)]
          exact hacc
        · have hcn : ¬ Cn S (i : Int) (j : Int) := fun h => hq (by
            have := (lab_eq_iff (S := S) (p := (i : Int)) (q := (j : Int)) (by omega) (by omega)).2 h
            rw [← this, hlab])
          rw [decide_eq_false hcn] at hldj
          simp (maxSteps := 4000000) -implicitDefEqProofs -dsimp (disch := omega) only [↓AW_skip, ↓AW_ops, ↓AW_seq, ↓AW_cond, ↓AW_block, ↓AOps_nil, ↓AOps_pu, ↓AOps_ld, on_some, condB_t, condB_f, ↓then_normal, ↓inBlock_normal, pval, lval, rd_S, rd_C, put_S, chkd, isAdr, bgot, cells_agg, partA, eq_self, mk, List.foldl_cons, List.foldl_nil, List.replicate_succ, List.replicate_zero, List.set_cons_zero, List.set_cons_succ, List.getElem?_cons_zero, List.getElem?_cons_succ, List.drop_zero, List.take_zero, List.take_succ_cons, Option.getD_some, List.length_cons, List.length_nil, Nat.reduceAdd, Nat.reduceLeDiff, Nat.zero_add, bin_add, bin_lss, w64, if_true, if_false, Bool.false_eq_true, decide_true, true_and, hjl', idxB, hldj]
          have hbl : bl P (dn S i j) = bl P (dn S i (j + 1)) := bl_congr (fun p p0 _ => dn_skip S i j hq p p0)
          refine ⟨(j + 1, z, G, K), ⟨hjl, by simp only; rw [← hbl]; exact hnk, hmk, ?_⟩, by simp [Has, rd_s], rfl, by simp only; omega⟩
          simp only
          rw [filt_succ, if_neg (by simpa using hq), List.append_nil]
          exact hac
      · have hjl' : ¬ (j : Int) < P := by omega
        have hjP : j = P := by omega
        subst hjP
        have hwl : ws.length = ((plc i).filter (fun p => decide (Root S p))).length := by
          have := congrArg List.length hli
          simpa using this
        have hwl2 := filt_len (fun p => decide (Root S p)) i
        obtain ⟨hzc, v3, H4, happ, h3⟩ := row_of hnk hac (.inr (by simp)) (by simp only [lim]; omega)
        have hv3c : v3.cells? = some [v3] := Ls_cells (AccL_ls h3.acc e0_len)
        simp (maxSteps := 4000000) -implicitDefEqProofs -dsimp (disch := omega) only [↓AW_ops, ↓AW_seq, ↓AW_cond, ↓AW_exit, ↓AW_ret, ↓AOps_nil, ↓AOps_pu, ↓AOps_ha, on_some, extK_false, extK_app, condB_f, ↓then_normal, ↓then_exit, ↓inBlock_normal, ↓inBlock_exit, ↓FinR_ret, pval, hval_blds, hval_app, rd_S, rd_C, put_S, resV, resL, chkd, isAdr, bgot, cells_agg, splice, partA, fillA, repl, eq_self, mk, List.foldl_cons, List.foldl_nil, List.replicate_succ, List.replicate_zero, List.set_cons_zero, List.set_cons_succ, List.getElem?_cons_zero, List.getElem?_cons_succ, List.drop_zero, List.drop_succ_cons, List.drop_nil, List.take_zero, List.take_succ_cons, Option.getD_some, map_c, map_n, List.length_cons, List.length_nil, Nat.reduceAdd, Nat.reduceLeDiff, Nat.reduceEqDiff, Nat.zero_add, List.nil_append, List.append_nil, bin_add, bin_lss, w64, if_true, if_false, Bool.false_eq_true, decide_false, true_and, and_true, reduceCtorEq, hjl', hzc, happ, List.replicate_zero, repl]
        have hbl : bl j (dn S i j) = bl j (dn S (i + 1) 0) := bl_congr (fun p p0 p1 => dn_next S i p p0 p1)
        rw [hbl] at h3
        refine ⟨(i + 1, v3, H4, ws ++ [(z, (plc j).filter (fun q => decide (lab S q = (i : Int))))]), ⟨hlt, h3, ?_⟩, by simp [Has, rd_s], rfl, by simp only; omega⟩
        simp only [lists, List.map_append, List.map_cons, List.map_nil]
        rw [filt_succ, if_pos (decide_eq_true hr), List.map_append, show List.map Prod.snd ws = _ from hli]
        rfl
    · have hd : dn S i 0 (i : Int) = true := by
        unfold dn
        refine decide_eq_true (.inl ?_)
        have h1 := lab_spec S (p := (i : Int)) (by omega)
        have h2 : lab S (i : Int) ≠ (i : Int) := fun e => hr ((lab_self_iff (by omega)).1 e)
        omega
      rw [hd] at hld
      simp (maxSteps := 4000000) -implicitDefEqProofs -dsimp (disch := omega) only [↓AW_skip, ↓AW_ops, ↓AW_seq, ↓AW_cond, ↓AW_block, ↓AW_exit, ↓AW_ret, ↓AOps_nil, ↓AOps_pu, ↓AOps_ld, on_some, condB_t, ↓then_normal, ↓then_exit, ↓inBlock_exit, ↓FinR_ret, pval, lval, rd_S, rd_C, put_S, resV, resL, chkd, isAdr, bgot, cells_agg, partA, eq_self, mk, List.foldl_cons, List.foldl_nil, List.replicate_succ, List.replicate_zero, List.set_cons_zero, List.set_cons_succ, List.getElem?_cons_zero, List.getElem?_cons_succ, List.drop_zero, List.take_zero, List.take_succ_cons, Option.getD_some, List.length_cons, List.length_nil, Nat.reduceAdd, Nat.reduceLeDiff, Nat.zero_add, bin_add, bin_lss, w64, if_true, if_false, Bool.false_eq_true, decide_true, true_and, reduceCtorEq, hlt', idxB, hld]
      have hbl : bl P (dn S i 0) = bl P (dn S (i + 1) 0) := bl_congr (fun p p0 _ => dn_no S i hr p p0)
      rw [hbl] at hnl
      refine ⟨(i + 1, y, H, ws), ⟨hlt, hnl, ?_⟩, by simp [Has, rd_s], rfl, by simp only; omega⟩
      simp only
      rw [filt_succ, if_neg (by simpa using hr), List.append_nil]
      exact hli
  · have hlt' : ¬ (i : Int) < P := by omega
    have hiP : i = P := by omega
    subst hiP
    simp (maxSteps := 4000000) -implicitDefEqProofs -dsimp (disch := omega) only [↓AW_ops, ↓AW_seq, ↓AW_cond, ↓AW_exit, ↓AW_ret, ↓AOps_nil, ↓AOps_pu, on_some, condB_f, ↓then_normal, ↓then_exit, ↓inBlock_exit, ↓FinR_ret, pval, rd_S, rd_C, put_S, resV, resL, chkd, isAdr, bgot, cells_agg, partA, eq_self, mk, List.foldl_cons, List.foldl_nil, List.replicate_succ, List.replicate_zero, List.set_cons_zero, List.set_cons_succ, List.getElem?_cons_zero, List.getElem?_cons_succ, List.drop_zero, List.take_zero, List.take_succ_cons, Option.getD_some, List.length_cons, List.length_nil, Nat.reduceAdd, Nat.reduceLeDiff, Nat.zero_add, bin_lss, if_true, if_false, Bool.false_eq_true, decide_false, hlt']
    exact ⟨_, _, gc_all, _, rfl, hpA, ws, hnl.ll, hli⟩
/-- The groups that the program hands back. -/
theorem c_groups1 (hu : L3 A u rs) (hx : L1 A v ks) (hn : Net P rs) (hok : okS rs.length ks) (hl : ks.length ≤ 1000000) : ∃ t H, ACalls Try.prog 26 [.agg [I P, u], v] A t H ∧ ∃ r, t = .tuple [r, I 0] ∧ A <+: H ∧ ∃ ws, LL H r ws ∧ lists ws = grp P (ks.map (rdx rs)) := by
  refine acallsR hmix Try.func26 (by kernel_rfl) t26 _ 2 rfl (by decide) ?_
  have hP7 := hn.p7
  have hP1 := hn.p1
  dsimp only [m26]
  simp (maxSteps := 4000000) -implicitDefEqProofs -dsimp (disch := omega) only [↓AW_ops, ↓AW_seq, ↓AOps_nil, ↓AOps_pu, ↓AOps_call, on_some, ↓then_normal, pval, rd_S, rd_C, put_S, chkd, bgot, cells_agg, partA, eq_self, List.replicate_succ, List.replicate_zero, List.set_cons_zero, List.set_cons_succ, List.getElem?_cons_zero, List.getElem?_cons_succ, List.drop_zero, List.take_succ_cons, List.take_nil, Option.getD_some, map_c, map_n, List.length_cons, List.length_nil, Nat.reduceAdd, Nat.reduceSub, Nat.reduceLeDiff, Nat.reduceEqDiff, Nat.zero_add, List.cons_append, List.nil_append, if_true, if_false]
  refine CallK.of (s28 hu ⟨by omega, by omega⟩) ?_
  rw [vE_0.2 hn]
  simp (maxSteps := 4000000) -implicitDefEqProofs -dsimp (disch := omega) only [↓AW_skip, ↓AW_ops, ↓AW_seq, ↓AW_cond, ↓AOps_nil, ↓AOps_pu, ↓AOps_call, on_some, extK_same, condB_f, ↓then_normal, pval, rd_S, rd_C, put_S, chkd, isAdr, bgot, cells_agg, partA, eq_self, List.replicate_succ, List.replicate_zero, List.set_cons_zero, List.set_cons_succ, List.getElem?_cons_zero, List.getElem?_cons_succ, List.drop_zero, List.drop_succ_cons, List.take_succ_cons, List.take_nil, Option.getD_some, map_c, map_n, List.length_cons, List.length_nil, Nat.reduceAdd, Nat.reduceSub, Nat.reduceLeDiff, Nat.zero_add, List.cons_append, List.nil_append, bin_neq, if_true, if_false, Bool.false_eq_true, decide_false, not_true_eq_false, hu.len]
  refine CallK.of (s73 hx hl hn.lenb) ?_
  rw [if_pos hok]
  simp (maxSteps := 4000000) -implicitDefEqProofs -dsimp (disch := omega) only [↓AW_skip, ↓AW_ops, ↓AW_seq, ↓AW_cond, ↓AOps_nil, ↓AOps_pu, ↓AOps_call, on_some, extK_same, condB_f, ↓then_normal, pval, rd_S, rd_C, put_S, chkd, bgot, partA, eq_self, List.replicate_succ, List.replicate_zero, List.set_cons_zero, List.set_cons_succ, List.getElem?_cons_zero, List.getElem?_cons_succ, List.drop_zero, List.take_succ_cons, List.take_nil, Option.getD_some, map_c, map_n, List.length_cons, List.length_nil, Nat.reduceAdd, Nat.reduceSub, Nat.reduceLeDiff, Nat.reduceEqDiff, Nat.zero_add, List.cons_append, List.nil_append, bin_neq, if_true, if_false, decide_false, not_true_eq_false]
  obtain ⟨r, H, hc, hp, ws, hnl, hli⟩ := c_groups hu hx hn (okS_nos hok) hl
  refine CallK.of hc ?_
  simp (maxSteps := 4000000) -implicitDefEqProofs -dsimp (disch := omega) only [↓AW_ret, ↓AOps_nil, ↓AOps_pu, on_some, extK_false, ↓then_normal, ↓FinR_ret, pval, rd_S, rd_C, put_S, resV, resL, List.replicate_succ, List.replicate_zero, List.set_cons_zero, List.set_cons_succ, List.getElem?_cons_zero, List.getElem?_cons_succ, Option.getD_some, Nat.reduceSub, List.cons_append, List.nil_append]
  exact ⟨_, _, gc_all, _, rfl, hp, ws, hnl.ll, hli⟩
end
section
variable {Q : Int} {rs : List Rd} {ks : List Int} {u v : AV} {A : AHeap}
/-- The error of groups. -/
def gE (Q : Int) (rs : List Rd) (ks : List Int) : Int := if vE Q rs = 0 then (if okS rs.length ks then 0 else 1) else vE Q rs
theorem c_groups_bad (hu : L3 A u rs) (hx : L1 A v ks) (hP : W Q) (hl : ks.length ≤ 1000000) (h : ¬ gE Q rs ks = 0) : ACalls Try.prog 26 [.agg [I Q, u], v] A (.tuple [.nilS, I (gE Q rs ks)]) A ∧ ACalls Try.prog 27 [.agg [I Q, u], v] A (.tuple [.nilS, I (gE Q rs ks)]) A := by
  by_cases h0 : vE Q rs = 0
  · have hn := vE_0.1 h0
    have h1 : ¬ okS rs.length ks := fun hh => h (by unfold gE; rw [if_pos h0, if_pos hh])
    have hg : gE Q rs ks = 1 := by unfold gE; rw [if_pos h0, if_neg h1]
    rw [hg]
    constructor
    · refine acalls hmix Try.func26 (by kernel_rfl) t26 2 rfl (by decide) ?_
      dsimp only [m26]
      simp (maxSteps := 4000000) -implicitDefEqProofs -dsimp (disch := omega) only [↓AW_ops, ↓AW_seq, ↓AOps_nil, ↓AOps_pu, ↓AOps_call, on_some, ↓then_normal, pval, rd_S, rd_C, put_S, chkd, bgot, AV.cells?, partA, eq_self, List.replicate_succ, List.replicate_zero, List.set_cons_zero, List.set_cons_succ, List.getElem?_cons_zero, List.getElem?_cons_succ, List.drop_zero, List.take_succ_cons, List.take_nil, Option.getD_some, map_c, map_n, List.length_cons, List.length_nil, Nat.reduceAdd, Nat.reduceSub, Nat.reduceLeDiff, Nat.reduceEqDiff, Nat.zero_add, List.cons_append, List.nil_append, if_true, if_false]
      refine CallK.of (s28 hu hP) ?_
      simp (maxSteps := 4000000) -implicitDefEqProofs -dsimp (disch := omega) only [↓AW_skip, ↓AW_ops, ↓AW_seq, ↓AW_cond, ↓AOps_nil, ↓AOps_pu, ↓AOps_call, on_some, extK_same, condB_f, ↓then_normal, pval, rd_S, rd_C, put_S, chkd, isAdr, bgot, AV.cells?, partA, eq_self, List.replicate_succ, List.replicate_zero, List.set_cons_zero, List.set_cons_succ, List.getElem?_cons_zero, List.getElem?_cons_succ, List.drop_zero, List.drop_succ_cons, List.take_succ_cons, List.take_nil, Option.getD_some, map_c, map_n, List.length_cons, List.length_nil, Nat.reduceAdd, Nat.reduceSub, Nat.reduceLeDiff, Nat.zero_add, List.cons_append, List.nil_append, bin_neq, if_true, if_false, Bool.false_eq_true, decide_false, not_true_eq_false, h0, hu.len]
      refine CallK.of (s73 hx hl hn.lenb) ?_
      rw [if_neg h1]
      simp (maxSteps := 4000000) -implicitDefEqProofs -dsimp (disch := omega) only [↓AW_ops, ↓AW_seq, ↓AW_cond, ↓AW_ret, ↓AOps_nil, ↓AOps_pu, on_some, extK_same, condB_t, ↓then_normal, ↓then_ret, ↓Fin_ret, pval, rd_S, rd_C, put_S, resV, resL, List.replicate_succ, List.replicate_zero, List.set_cons_zero, List.set_cons_succ, List.getElem?_cons_zero, List.getElem?_cons_succ, Option.getD_some, Nat.reduceSub, List.cons_append, List.nil_append, bin_neq, decide_true, not_false_eq_true, Int.reduceEq]
      exact gc_same rfl
    · refine acalls hmix Try.func27 (by kernel_rfl) t27 2 rfl (by decide) ?_
      dsimp only [m27]
      simp (maxSteps := 4000000) -implicitDefEqProofs -dsimp (disch := omega) only [↓AW_ops, ↓AW_seq, ↓AOps_nil, ↓AOps_pu, ↓AOps_call, on_some, ↓then_normal, pval, rd_S, rd_C, put_S, chkd, bgot, AV.cells?, partA, eq_self, List.replicate_succ, List.replicate_zero, List.set_cons_zero, List.set_cons_succ, List.getElem?_cons_zero, List.getElem?_cons_succ, List.drop_zero, List.take_succ_cons, List.take_nil, Option.getD_some, map_c, map_n, List.length_cons, List.length_nil, Nat.reduceAdd, Nat.reduceSub, Nat.reduceLeDiff, Nat.reduceEqDiff, Nat.zero_add, List.cons_append, List.nil_append, if_true, if_false]
      refine CallK.of (s22 hu hP) ?_
      simp (maxSteps := 4000000) -implicitDefEqProofs -dsimp (disch := omega) only [↓AW_skip, ↓AW_ops, ↓AW_seq, ↓AW_cond, ↓AOps_nil, ↓AOps_pu, ↓AOps_call, on_some, extK_same, condB_f, ↓then_normal, pval, rd_S, rd_C, put_S, chkd, isAdr, bgot, AV.cells?, partA, eq_self, List.replicate_succ, List.replicate_zero, List.set_cons_zero, List.set_cons_succ, List.getElem?_cons_zero, List.getElem?_cons_succ, List.drop_zero, List.drop_succ_cons, List.take_succ_cons, List.take_nil, Option.getD_some, map_c, map_n, List.length_cons, List.length_nil, Nat.reduceAdd, Nat.reduceSub, Nat.reduceLeDiff, Nat.zero_add, List.cons_append, List.nil_append, bin_neq, if_true, if_false, Bool.false_eq_true, decide_false, not_true_eq_false, h0, hu.len]
      refine CallK.of (s75 hx hl hn.lenb) ?_
      rw [decide_eq_false h1]
      simp (maxSteps := 4000000) -implicitDefEqProofs -dsimp (disch := omega) only [↓AW_ops, ↓AW_seq, ↓AW_cond, ↓AW_ret, ↓AOps_nil, ↓AOps_pu, on_some, extK_same, condB_t, ↓then_normal, ↓then_ret, ↓Fin_ret, pval, rd_S, rd_C, put_S, resV, resL, List.replicate_succ, List.replicate_zero, List.set_cons_zero, List.set_cons_succ, List.getElem?_cons_zero, List.getElem?_cons_succ, Option.getD_some, Nat.reduceSub, List.cons_append, List.nil_append, Bool.not_false]
      exact gc_same rfl
  · have hg : gE Q rs ks = vE Q rs := by unfold gE; rw [if_neg h0]
    rw [hg]
    constructor
    · refine acalls hmix Try.func26 (by kernel_rfl) t26 2 rfl (by decide) ?_
      dsimp only [m26]
      simp (maxSteps := 4000000) -implicitDefEqProofs -dsimp (disch := omega) only [↓AW_ops, ↓AW_seq, ↓AOps_nil, ↓AOps_pu, ↓AOps_call, on_some, ↓then_normal, pval, rd_S, rd_C, put_S, chkd, bgot, AV.cells?, partA, eq_self, List.replicate_succ, List.replicate_zero, List.set_cons_zero, List.set_cons_succ, List.getElem?_cons_zero, List.getElem?_cons_succ, List.drop_zero, List.take_succ_cons, List.take_nil, Option.getD_some, map_c, map_n, List.length_cons, List.length_nil, Nat.reduceAdd, Nat.reduceSub, Nat.reduceLeDiff, Nat.reduceEqDiff, Nat.zero_add, List.cons_append, List.nil_append, if_true, if_false]
      refine CallK.of (s28 hu hP) ?_
      simp (maxSteps := 4000000) -implicitDefEqProofs -dsimp (disch := omega) only [↓AW_ops, ↓AW_seq, ↓AW_cond, ↓AW_ret, ↓AOps_nil, ↓AOps_pu, on_some, extK_same, condB_t, ↓then_normal, ↓then_ret, ↓Fin_ret, pval, rd_S, rd_C, put_S, resV, resL, List.replicate_succ, List.replicate_zero, List.set_cons_zero, List.set_cons_succ, List.getElem?_cons_zero, List.getElem?_cons_succ, Option.getD_some, Nat.reduceSub, List.cons_append, List.nil_append, bin_neq, decide_true, not_false_eq_true, h0]
      exact gc_same rfl
    · refine acalls hmix Try.func27 (by kernel_rfl) t27 2 rfl (by decide) ?_
      dsimp only [m27]
      simp (maxSteps := 4000000) -implicitDefEqProofs -dsimp (disch := omega) only [↓AW_ops, ↓AW_seq, ↓AOps_nil, ↓AOps_pu, ↓AOps_call, on_some, ↓then_normal, pval, rd_S, rd_C, put_S, chkd, bgot, AV.cells?, partA, eq_self, List.replicate_succ, List.replicate_zero, List.set_cons_zero, List.set_cons_succ, List.getElem?_cons_zero, List.getElem?_cons_succ, List.drop_zero, List.take_succ_cons, List.take_nil, Option.getD_some, map_c, map_n, List.length_cons, List.length_nil, Nat.reduceAdd, Nat.reduceSub, Nat.reduceLeDiff, Nat.reduceEqDiff, Nat.zero_add, List.cons_append, List.nil_append, if_true, if_false]
      refine CallK.of (s22 hu hP) ?_
      simp (maxSteps := 4000000) -implicitDefEqProofs -dsimp (disch := omega) only [↓AW_ops, ↓AW_seq, ↓AW_cond, ↓AW_ret, ↓AOps_nil, ↓AOps_pu, on_some, extK_same, condB_t, ↓then_normal, ↓then_ret, ↓Fin_ret, pval, rd_S, rd_C, put_S, resV, resL, List.replicate_succ, List.replicate_zero, List.set_cons_zero, List.set_cons_succ, List.getElem?_cons_zero, List.getElem?_cons_succ, Option.getD_some, Nat.reduceSub, List.cons_append, List.nil_append, bin_neq, decide_true, not_false_eq_true, h0]
      exact gc_same rfl
theorem LL_nil (A : AHeap) : LL A .nilS [] := ⟨⟨e0_len, rfl⟩, by simp⟩
theorem grp_len2 (P : Nat) (S : List Rd) : (grp P S).length ≤ P := by
  unfold grp roots
  rw [List.length_map]
  exact filt_len _ P
theorem s6 (hu : L3 A u rs) (hP : W Q) (hx : L1 A v ks) : ACalls Try.prog 6 [.agg [I Q, u], v] A (B true) A := by
  refine acalls hmix Try.func6 (by kernel_rfl) t6 2 rfl (by decide) ?_
  dsimp only [m6]
  simp (maxSteps := 4000000) -implicitDefEqProofs -dsimp (disch := omega) only [↓AW_ops, ↓AW_seq, ↓AOps_nil, ↓AOps_pu, ↓AOps_call, on_some, ↓then_normal, pval, rd_S, rd_C, put_S, chkd, bgot, AV.cells?, partA, eq_self, List.replicate_succ, List.replicate_zero, List.set_cons_zero, List.set_cons_succ, List.getElem?_cons_zero, List.getElem?_cons_succ, List.drop_zero, List.take_succ_cons, List.take_nil, Option.getD_some, map_c, map_n, List.length_cons, List.length_nil, Nat.reduceAdd, Nat.reduceSub, Nat.reduceLeDiff, Nat.reduceEqDiff, Nat.zero_add, List.cons_append, List.nil_append, if_true, if_false]
  refine CallK.of (s17 hu Q) ?_
  by_cases h1 : (100 : Int) < rs.length
  · simp (maxSteps := 4000000) -implicitDefEqProofs -dsimp (disch := omega) only [↓AW_ops, ↓AW_seq, ↓AW_cond, ↓AOps_nil, ↓AOps_pu, ↓AOps_call, ↓AOps_guard, on_some, extK_same, guardB_tf, skipS_some, condB_t, ↓then_normal, pval, rd_S, rd_C, put_S, eq_self, List.replicate_succ, List.replicate_zero, List.set_cons_zero, List.set_cons_succ, List.getElem?_cons_zero, List.getElem?_cons_succ, Option.getD_some, map_n, Nat.reduceSub, List.cons_append, List.nil_append, if_true, decide_true, h1]
    refine CallK.of (known A) ?_
    simp (maxSteps := 4000000) -implicitDefEqProofs -dsimp (disch := omega) only [↓AW_ret, ↓AOps_nil, ↓AOps_pu, on_some, extK_same, skipS_some, ↓then_normal, ↓then_ret, ↓Fin_ret, pval, rd_S, put_S, resV, resL, List.replicate_succ, List.replicate_zero, List.set_cons_zero, List.set_cons_succ, List.getElem?_cons_zero, List.getElem?_cons_succ, Option.getD_some, Nat.reduceSub, List.cons_append, List.nil_append]
    exact gc_same rfl
  by_cases h2 : (100 : Int) < ks.length
  · simp (maxSteps := 4000000) -implicitDefEqProofs -dsimp (disch := omega) only [↓AW_ops, ↓AW_seq, ↓AW_cond, ↓AOps_nil, ↓AOps_pu, ↓AOps_call, ↓AOps_guard, on_some, extK_same, guardB_ff, condB_t, ↓then_normal, pval, rd_S, rd_C, put_S, List.replicate_succ, List.replicate_zero, List.set_cons_zero, List.set_cons_succ, List.getElem?_cons_zero, List.getElem?_cons_succ, Option.getD_some, map_n, Nat.reduceSub, List.cons_append, List.nil_append, bin_gtr, if_false, Bool.false_eq_true, decide_true, decide_false, h1, hx.len, h2]
    refine CallK.of (known A) ?_
    simp (maxSteps := 4000000) -implicitDefEqProofs -dsimp (disch := omega) only [↓AW_ret, ↓AOps_nil, ↓AOps_pu, on_some, extK_same, ↓then_normal, ↓then_ret, ↓Fin_ret, pval, rd_S, put_S, resV, resL, List.replicate_succ, List.replicate_zero, List.set_cons_zero, List.set_cons_succ, List.getElem?_cons_zero, List.getElem?_cons_succ, Option.getD_some, Nat.reduceSub, List.cons_append, List.nil_append]
    exact gc_same rfl
  have hl : ks.length ≤ 1000000 := by omega
  simp (maxSteps := 4000000) -implicitDefEqProofs -dsimp (disch := omega) only [↓AW_skip, ↓AW_ops, ↓AW_seq, ↓AW_cond, ↓AOps_nil, ↓AOps_pu, ↓AOps_call, ↓AOps_guard, on_some, extK_same, guardB_ff, condB_f, ↓then_normal, pval, rd_S, rd_C, put_S, chkd, bgot, partA, eq_self, List.replicate_succ, List.replicate_zero, List.set_cons_zero, List.set_cons_succ, List.getElem?_cons_zero, List.getElem?_cons_succ, List.drop_zero, List.take_succ_cons, List.take_nil, Option.getD_some, map_c, map_n, List.length_cons, List.length_nil, Nat.reduceAdd, Nat.reduceSub, Nat.reduceLeDiff, Nat.reduceEqDiff, Nat.zero_add, List.cons_append, List.nil_append, bin_gtr, if_true, if_false, Bool.false_eq_true, decide_false, h1, hx.len, h2]
  by_cases hg : gE Q rs ks = 0
  case neg =>
    obtain ⟨b1, b2⟩ := c_groups_bad hu hx hP hl hg
    refine CallK.of b1 ?_
    simp (maxSteps := 4000000) -implicitDefEqProofs -dsimp (disch := omega) only [↓AW_ops, ↓AW_seq, ↓AOps_nil, ↓AOps_pu, ↓AOps_call, on_some, extK_same, ↓then_normal, pval, rd_S, put_S, chkd, bgot, partA, eq_self, List.replicate_succ, List.replicate_zero, List.set_cons_zero, List.set_cons_succ, List.getElem?_cons_zero, List.getElem?_cons_succ, List.drop_zero, List.take_succ_cons, List.take_nil, Option.getD_some, map_c, map_n, List.length_cons, List.length_nil, Nat.reduceAdd, Nat.reduceSub, Nat.reduceLeDiff, Nat.reduceEqDiff, Nat.zero_add, List.cons_append, List.nil_append, if_true, if_false]
    refine CallK.of b2 ?_
    simp (maxSteps := 4000000) -implicitDefEqProofs -dsimp (disch := omega) only [↓AW_ops, ↓AW_seq, ↓AOps_nil, ↓AOps_pu, ↓AOps_call, on_some, extK_same, ↓then_normal, pval, rd_S, put_S, chkd, bgot, partA, eq_self, List.replicate_succ, List.replicate_zero, List.set_cons_zero, List.set_cons_succ, List.getElem?_cons_zero, List.getElem?_cons_succ, List.drop_zero, List.take_succ_cons, List.take_nil, Option.getD_some, map_c, map_n, List.length_cons, List.length_nil, Nat.reduceAdd, Nat.reduceSub, Nat.reduceLeDiff, Nat.reduceEqDiff, Nat.zero_add, List.cons_append, List.nil_append, if_true, if_false]
    refine CallK.of (s28 hu hP) ?_
    simp (maxSteps := 4000000) -implicitDefEqProofs -dsimp (disch := omega) only [↓AOps_pu, ↓AOps_call, on_some, extK_same, pval, rd_S, put_S, chkd, bgot, partA, eq_self, List.replicate_succ, List.replicate_zero, List.set_cons_zero, List.set_cons_succ, List.getElem?_cons_zero, List.getElem?_cons_succ, List.drop_zero, List.take_succ_cons, List.take_nil, Option.getD_some, map_c, map_n, List.length_cons, List.length_nil, Nat.reduceAdd, Nat.reduceSub, Nat.reduceLeDiff, Nat.reduceEqDiff, Nat.zero_add, List.cons_append, List.nil_append, if_true, if_false]
    refine CallK.of (s22 hu hP) ?_
    simp (maxSteps := 4000000) -implicitDefEqProofs -dsimp (disch := omega) only [↓AOps_pu, ↓AOps_call, ↓AOps_guard, on_some, extK_same, guardB_tt, pval, rd_S, rd_C, put_S, eq_self, List.replicate_succ, List.replicate_zero, List.set_cons_zero, List.set_cons_succ, List.getElem?_cons_zero, List.getElem?_cons_succ, Option.getD_some, map_c, map_n, Nat.reduceSub, List.cons_append, List.nil_append, bin_eql, if_true, decide_true]
    refine CallK.of (s29 (LL_nil A) (LL_nil A) (by simp) (by simp)) ?_
    simp (maxSteps := 4000000) -implicitDefEqProofs -dsimp (disch := omega) only [↓AOps_pu, ↓AOps_call, ↓AOps_guard, on_some, extK_same, guardB_tt, pval, rd_S, rd_C, put_S, eq_self, List.replicate_succ, List.replicate_zero, List.set_cons_zero, List.set_cons_succ, List.getElem?_cons_zero, List.getElem?_cons_succ, Option.getD_some, map_n, Nat.reduceSub, List.cons_append, List.nil_append, if_true, decide_true]
    refine CallK.of (known A) ?_
    simp (maxSteps := 4000000) -implicitDefEqProofs -dsimp (disch := omega) only [↓AW_ret, ↓AOps_nil, ↓AOps_pu, on_some, extK_same, ↓then_normal, ↓Fin_ret, pval, rd_S, rd_C, put_S, resV, resL, eq_self, List.replicate_succ, List.replicate_zero, List.set_cons_zero, List.set_cons_succ, List.getElem?_cons_zero, List.getElem?_cons_succ, Option.getD_some, map_n, Nat.reduceSub, List.cons_append, List.nil_append, if_true, decide_true]
    exact gc_same rfl
  have hv : vE Q rs = 0 := Classical.byContradiction (fun h => h (by unfold gE at hg; rw [if_neg h] at hg; exact hg))
  have hok : okS rs.length ks := Classical.byContradiction (fun h => by unfold gE at hg; rw [if_pos hv, if_neg h] at hg; cases hg)
  have hn := vE_0.1 hv
  obtain ⟨P, rfl⟩ := hn.nat
  have hP7 := hn.p7
  obtain ⟨t1, H1, c1, r1, rfl, p1, ws1, ll1, li1⟩ := c_groups1 hu hx hn hok hl
  refine CallK.of c1 ?_
  simp (maxSteps := 4000000) -implicitDefEqProofs -dsimp (disch := omega) only [↓AW_ops, ↓AW_seq, ↓AOps_nil, ↓AOps_pu, ↓AOps_call, on_some, extK_false, ↓then_normal, pval, rd_S, put_S, chkd, bgot, partA, eq_self, List.replicate_succ, List.replicate_zero, List.set_cons_zero, List.set_cons_succ, List.getElem?_cons_zero, List.getElem?_cons_succ, List.drop_zero, List.take_succ_cons, List.take_nil, Option.getD_some, map_c, map_n, List.length_cons, List.length_nil, Nat.reduceAdd, Nat.reduceSub, Nat.reduceLeDiff, Nat.reduceEqDiff, Nat.zero_add, List.cons_append, List.nil_append, if_true, if_false]
  obtain ⟨t2, H2, c2, r2, rfl, p2, ws2, ll2, li2⟩ := c_groups2 (hu.mono p1) (hx.mono p1) hn hok hl
  refine CallK.of c2 ?_
  simp (maxSteps := 4000000) -implicitDefEqProofs -dsimp (disch := omega) only [↓AW_ops, ↓AW_seq, ↓AOps_nil, ↓AOps_pu, ↓AOps_call, on_some, extK_false, ↓then_normal, pval, rd_S, put_S, chkd, bgot, partA, eq_self, List.replicate_succ, List.replicate_zero, List.set_cons_zero, List.set_cons_succ, List.getElem?_cons_zero, List.getElem?_cons_succ, List.drop_zero, List.take_succ_cons, List.take_nil, Option.getD_some, map_c, map_n, List.length_cons, List.length_nil, Nat.reduceAdd, Nat.reduceSub, Nat.reduceLeDiff, Nat.reduceEqDiff, Nat.zero_add, List.cons_append, List.nil_append, if_true, if_false]
  have huH := hu.mono (p1.trans p2)
  refine CallK.of (s28 huH hP) ?_
  simp (maxSteps := 4000000) -implicitDefEqProofs -dsimp (disch := omega) only [↓AOps_pu, ↓AOps_call, on_some, extK_same, pval, rd_S, put_S, chkd, bgot, partA, eq_self, List.replicate_succ, List.replicate_zero, List.set_cons_zero, List.set_cons_succ, List.getElem?_cons_zero, List.getElem?_cons_succ, List.drop_zero, List.take_succ_cons, List.take_nil, Option.getD_some, map_c, map_n, List.length_cons, List.length_nil, Nat.reduceAdd, Nat.reduceSub, Nat.reduceLeDiff, Nat.reduceEqDiff, Nat.zero_add, List.cons_append, List.nil_append, if_true, if_false]
  refine CallK.of (s22 huH hP) ?_
  simp (maxSteps := 4000000) -implicitDefEqProofs -dsimp (disch := omega) only [↓AOps_pu, ↓AOps_call, ↓AOps_guard, on_some, extK_same, guardB_tt, pval, rd_S, rd_C, put_S, eq_self, List.replicate_succ, List.replicate_zero, List.set_cons_zero, List.set_cons_succ, List.getElem?_cons_zero, List.getElem?_cons_succ, Option.getD_some, map_c, map_n, Nat.reduceSub, List.cons_append, List.nil_append, bin_eql, if_true, decide_true]
  have hwl : ws1.length ≤ 7 := by
    have h3 := congrArg List.length li1
    have h4 := grp_len2 P (ks.map (rdx rs))
    simp only [List.length_map] at h3
    omega
  refine CallK.of (s29 (ll1.mono p2) ll2 (by omega) (fun w hw => ?_)) ?_
  · have h5 := mem_lists hw
    rw [li1] at h5
    obtain ⟨p, _, hp⟩ := List.mem_map.1 h5
    rw [← hp]
    have := filt_len (fun q => decide (lab (ks.map (rdx rs)) q = p)) P
    omega
  · rw [decide_eq_true (li1.trans li2.symm)]
    simp (maxSteps := 4000000) -implicitDefEqProofs -dsimp (disch := omega) only [↓AOps_pu, ↓AOps_call, ↓AOps_guard, on_some, extK_same, guardB_tt, pval, rd_S, rd_C, put_S, eq_self, List.replicate_succ, List.replicate_zero, List.set_cons_zero, List.set_cons_succ, List.getElem?_cons_zero, List.getElem?_cons_succ, Option.getD_some, map_n, Nat.reduceSub, List.cons_append, List.nil_append, if_true]
    refine CallK.of (known H2) ?_
    simp (maxSteps := 4000000) -implicitDefEqProofs -dsimp (disch := omega) only [↓AW_ret, ↓AOps_nil, ↓AOps_pu, on_some, extK_same, ↓then_normal, ↓Fin_ret, pval, rd_S, rd_C, put_S, resV, resL, eq_self, List.replicate_succ, List.replicate_zero, List.set_cons_zero, List.set_cons_succ, List.getElem?_cons_zero, List.getElem?_cons_succ, Option.getD_some, Nat.reduceSub, List.cons_append, List.nil_append, if_true]
    exact gc_val (p1.trans p2) rfl
end
end Go.Proofs.Ytkgfcdpckfhknaa

