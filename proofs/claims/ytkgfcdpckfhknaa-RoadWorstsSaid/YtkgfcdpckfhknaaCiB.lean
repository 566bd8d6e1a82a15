/- What the law's proof rests on, part 4: for all that is said in each line. No conditions. -/
import Derived.Test.YtkgfcdpckfhknaaRows
import Derived.Test.YtkgfcdpckfhknaaCiA
namespace Go.Proofs.Ytkgfcdpckfhknaa
open Go Go.Eng
def eb (b : Bool) : List AV := [.bool b]
def bl (P : Nat) (g : Int → Bool) : List AV := ((plc P).map g).flatMap eb
def updB (g : Int → Bool) (k : Int) (x : Bool) : Int → Bool := fun p => if p = k then x else g p
theorem bl_eq (P : Nat) (g : Int → Bool) : bl P g = (plc P).map (fun p => .bool (g p)) := by
  unfold bl
  induction plc P with
  | nil => rfl
  | cons x xs ih => rw [List.map_cons, List.flatMap_cons, ih]; rfl
theorem bl_len (P : Nat) (g : Int → Bool) : (bl P g).length = P := by rw [bl_eq, List.length_map, plc_len]
theorem bl_get {P : Nat} {g : Int → Bool} {k : Int} (h0 : 0 ≤ k) (h1 : k < P) : (bl P g)[k.toNat]? = some (.bool (g k)) := by
  rw [bl_eq, List.getElem?_map, plc_get (by omega)]
  show some (AV.bool (g ((k.toNat : Nat) : Int))) = _
  rw [Int.toNat_of_nonneg h0]
theorem bl_set {P : Nat} {g : Int → Bool} {k : Int} {x : Bool} (h0 : 0 ≤ k) (h1 : k < P) : (bl P g).set k.toNat (.bool x) = bl P (updB g k x) := by
  rw [bl_eq, bl_eq]
  apply List.ext_getElem?
  intro i
  rw [List.getElem?_set]
  by_cases hi : i < P
  · rw [List.getElem?_map, List.getElem?_map, plc_get hi]
    by_cases he : k.toNat = i
    · rw [if_pos he, if_pos (by rw [List.length_map, plc_len]; omega)]
      show _ = some (AV.bool (updB g k x (i : Int)))
      unfold updB
      rw [if_pos (by omega)]
    · rw [if_neg he]
      show some (AV.bool (g (i : Int))) = some (AV.bool (updB g k x (i : Int)))
      unfold updB
      rw [if_neg (by omega)]
  · have hn : ∀ f : Int → AV, ((plc P).map f)[i]? = none := fun f => List.getElem?_eq_none (by rw [List.length_map, plc_len]; omega)
    rw [hn, hn, if_neg (by omega)]
theorem bl_congr {P : Nat} {f g : Int → Bool} (h : ∀ p : Int, 0 ≤ p → p < P → f p = g p) : bl P f = bl P g := by
  rw [bl_eq, bl_eq]
  exact List.map_congr_left (fun p hp => by
    have := mem_plc.1 hp
    rw [h p this.1 this.2])
theorem bl_repl (P : Nat) : repl [.bool false] P = bl P (fun _ => false) := by
  rw [bl_eq]
  have : ∀ n, repl [.bool false] n = List.replicate n (AV.bool false) := by
    intro n
    induction n with
    | zero => rfl
    | succ n ih => rw [repl, ih]; rfl
  rw [this, List.map_const', plc_len]
theorem idxB {n P : Nat} {full : Bool} {k : Int} (h0 : 0 ≤ k) (h1 : k < P) : idxA 1 (.sl 1 n 0 P full) (I k) = some (.ptr n k.toNat) := by
  simp only [idxA]
  rw [if_pos ⟨h0, h1⟩, Nat.zero_add, Nat.mul_one]
theorem ldB {H : AHeap} {n P : Nat} {rw : Bool} {g : Int → Bool} (h : H[n]? = some (.cells rw (bl P g))) {k : Int} (h0 : 0 ≤ k) (h1 : k < P) : ldA 1 false (.ptr n k.toNat) H = some (.bool (g k)) := by
  unfold ldA
  simp only [h]
  unfold partA
  rw [if_pos (by rw [bl_len]; omega)]
  simp only [Bool.false_eq_true, if_false, if_true]
  exact bl_get h0 h1
theorem splice_one {l : List AV} {i : Nat} (h : i < l.length) (x : AV) : splice l i [x] = l.set i x := by
  unfold splice
  rw [List.set_eq_take_append_cons_drop, if_pos h]
  simp
theorem stB {H : AHeap} {n P : Nat} {g : Int → Bool} (h : H[n]? = some (.cells true (bl P g))) {k : Int} (h0 : 0 ≤ k) (h1 : k < P) (x : Bool) : stA 1 (.ptr n k.toNat) (.bool x) H = some (H.set n (.cells true (bl P (updB g k x)))) := by
  unfold stA
  simp only [cells_bool, h]
  rw [if_pos ⟨rfl, by rw [bl_len]; omega⟩, splice_one (by rw [bl_len]; omega), bl_set h0 h1]
def bst (g : Int → Bool) (r : Rd) : Int → Bool := if g r.1 = true ∨ g r.2.1 = true then (fun p => if p = r.2.1 then true else if p = r.1 then true else g p) else g
def brnd (S : List Rd) : Nat → (Int → Bool) → Int → Bool
  | 0, g => g
  | n + 1, g => S.foldl bst (brnd S n g)
theorem bst_mono {g : Int → Bool} {r : Rd} {p : Int} (h : g p = true) : bst g r p = true := by
  unfold bst
  split
  · simp only
    split
    · rfl
    · split
      · rfl
      · exact h
  · exact h
theorem bfold_mono : ∀ (L : List Rd) {g : Int → Bool} {p : Int}, g p = true → L.foldl bst g p = true
  | [], _, _, h => h
  | r :: L, g, p, h => bfold_mono L (bst_mono h)
theorem bfold_next : ∀ (L : List Rd) {g : Int → Bool} {p q : Int}, (∃ r ∈ L, (r.1 = p ∧ r.2.1 = q) ∨ (r.1 = q ∧ r.2.1 = p)) → g p = true → L.foldl bst g q = true
  | [], _, _, _, ⟨r, hr, _⟩, _ => by simp at hr
  | e :: L, g, p, q, ⟨r, hr, hpq⟩, h => by
    rcases List.mem_cons.1 hr with rfl | hr
    · refine bfold_mono L ?_
      unfold bst
      rcases hpq with ⟨rfl, rfl⟩ | ⟨rfl, rfl⟩
      · rw [if_pos (.inl h)]; simp
      · rw [if_pos (.inr h)]
        simp only
        split
        · rfl
        · simp
    · exact bfold_next L ⟨r, hr, hpq⟩ (bst_mono h)
theorem bfold_cn {S : List Rd} {s : Int} : ∀ (L : List Rd) {g : Int → Bool}, (∀ r ∈ L, r ∈ S) → (∀ p, g p = true → Cn S s p) → ∀ p, L.foldl bst g p = true → Cn S s p
  | [], _, _, h => h
  | r :: L, g, hL, h => by
    refine bfold_cn L (fun x hx => hL x (by simp [hx])) (fun p hp => ?_)
    have hab : Cn S r.1 r.2.1 := Cn.one (hL r (by simp))
    unfold bst at hp
    split at hp
    · rename_i hg
      simp only at hp
      have ha : Cn S s r.1 := by
        rcases hg with hg | hg
        · exact h _ hg
        · exact (h _ hg).trans hab.symm
      split at hp
      · rename_i e; rw [e]; exact ha.trans hab
      · split at hp
        · rename_i e; rw [e]; exact ha
        · exact h p hp
    · exact h p hp
theorem brnd_cn {P : Nat} {S : List Rd} (hS : ∀ e ∈ S, InP P e) {s : Int} (s0 : 0 ≤ s) (s1 : s < P) {p : Int} (p0 : 0 ≤ p) (p1 : p < P) : brnd S P (updB (fun _ => false) s true) p = decide (Cn S s p) := by
  have h0 : updB (fun _ => false) s true s = true := by unfold updB; rw [if_pos rfl]
  by_cases hc : Cn S s p
  · rw [decide_eq_true hc]
    exact saturate hS (X := fun t q => brnd S t (updB (fun _ => false) s true) q = true) (fun t q h => bfold_mono S h) (fun t q r _ _ h hadj => bfold_next S hadj h) (s := s) h0 s0 s1 hc
  · rw [decide_eq_false hc, ← Bool.not_eq_true]
    intro h
    refine hc ?_
    have : ∀ n p, brnd S n (updB (fun _ => false) s true) p = true → Cn S s p := by
      intro n
      induction n with
      | zero =>
        intro p hp
        have hp : updB (fun _ => false) s true p = true := hp
        unfold updB at hp
        split at hp
        · rename_i e; rw [e]; exact .refl _
        · cases hp
      | succ n ih => exact bfold_cn S (fun _ h => h) ih
    exact this P p h
section
variable {P : Nat} {rs : List Rd} {ks : List Int} {u v : AV} {A : AHeap}
/-- Where the walk's truth values stand. -/
noncomputable def rchH (A : AHeap) (P : Nat) (S : List Rd) (s : Int) : AHeap := A ++ [.cells true (bl P (fun p => decide (Cn S s p)))]
set_option maxHeartbeats 8000000 in
theorem s66 (hu : L3 A u rs) (hx : L1 A v ks) (hn : Net P rs) (hk : Nos rs ks) (hl : ks.length ≤ 1000000) {s : Int} (s0 : 0 ≤ s) (s1 : s < P) : ACalls Try.prog 66 [.agg [I P, u], I s, v] A (.sl 1 A.length 0 P true) (rchH A P (ks.map (rdx rs)) s) := by
  refine acalls hmix Try.func66 (by kernel_rfl) t66 3 rfl (by decide) ?_
  have hP7 := hn.p7
  have hP1 := hn.p1
  have hS : ∀ e ∈ ks.map (rdx rs), InP P e := inP_map (hk.inP hn)
  have hlim : (P : Int) ≤ (lim : Nat) := by simp only [lim]; omega
  have hP0 : (0 : Int) ≤ P := by omega
  dsimp only [m66]
  simp (maxSteps := 4000000) -implicitDefEqProofs -dsimp (disch := omega) only [↓AW_ops, ↓AW_seq, ↓AW_block, ↓AOps_nil, ↓AOps_pu, ↓AOps_ha, on_some, extK_false, extK_app, ↓then_normal, pval, hval_st, hval_mks, rd_S, rd_C, put_S, putS_none, ↓AW_toLoop, chkd, isAdr, bgot, cells_agg, partA, beq_self_eq_true, eq_self, List.replicate_succ, List.replicate_zero, List.set_cons_zero, List.set_cons_succ, List.getElem?_cons_zero, List.getElem?_cons_succ, List.drop_zero, List.take_zero, List.take_succ_cons, Option.getD_some, Option.map_some, List.length_cons, List.length_nil, Nat.reduceAdd, Nat.reduceSub, Nat.reduceLeDiff, Nat.zero_add, List.cons_append, List.nil_append, if_true, if_false, Bool.false_eq_true, and_true, hP0, bl_repl, Int.toNat_natCast, hlim, Int.le_refl, idxB, stB (mp_new A (.cells true (bl P (fun _ => false)))), mp_set]
  refine LoopK.by 58 (fun t : Nat => t ≤ P) (fun t => [(2, v), (3, .agg [I P, u]), (7, .sl 1 A.length 0 P true), (8, I t)]) (fun t => A ++ [.cells true (bl P (brnd (ks.map (rdx rs)) t (updB (fun _ => false) s true)))]) (fun t => P - t) 0 (by omega) rfl (by simp [Has, rd_s]) rfl ?_
  intro t ht
  by_cases htl : t < P
  · have htl' : (t : Int) < P := by omega
    simp (maxSteps := 4000000) -implicitDefEqProofs -dsimp (disch := omega) only [↓AW_skip, ↓AW_ops, ↓AW_seq, ↓AW_cond, ↓AW_block, ↓AOps_nil, ↓AOps_pu, on_some, condB_t, ↓then_normal, pval, rd_S, rd_C, put_S, ↓AW_toLoop, chkd, isAdr, bgot, cells_agg, partA, eq_self, mk, List.foldl_cons, List.foldl_nil, List.replicate_succ, List.replicate_zero, List.set_cons_zero, List.set_cons_succ, List.getElem?_cons_zero, List.getElem?_cons_succ, List.drop_zero, List.take_zero, List.take_succ_cons, Option.getD_some, List.length_cons, List.length_nil, Nat.reduceAdd, Nat.reduceLeDiff, Nat.zero_add, bin_lss, if_true, if_false, Bool.false_eq_true, decide_true, htl']
    refine LoopK.by 58 (fun j : Nat => j ≤ ks.length) (fun j => [(2, v), (3, .agg [I P, u]), (7, .sl 1 A.length 0 P true), (8, I t), (9, I j)]) (fun j => A ++ [.cells true (bl P (((ks.map (rdx rs)).take j).foldl bst (brnd (ks.map (rdx rs)) t (updB (fun _ => false) s true))))]) (fun j => ks.length - j) 0 (by omega) rfl (by simp [Has, rd_s]) rfl ?_
    intro j hj
    generalize hg : ((ks.map (rdx rs)).take j).foldl bst (brnd (ks.map (rdx rs)) t (updB (fun _ => false) s true)) = g
    have hxm := hx.mono (pre_app A [.cells true (bl P g)])
    have hum := hu.mono (pre_app A [.cells true (bl P g)])
    by_cases hlt : j < ks.length
    · obtain ⟨z, hz⟩ : ∃ z, ks[j]? = some z := ⟨_, List.getElem?_eq_getElem hlt⟩
      have hlt' : (j : Int) < ks.length := by omega
      obtain ⟨k0, k1⟩ := hk z (List.mem_of_getElem? hz)
      obtain ⟨hr, _⟩ := rdx_at k0 k1
      obtain ⟨⟨a0, a1⟩, ⟨b0, b1⟩⟩ := hn.inP k0 k1
      have hri := hum.idxI (k := .i64) k0 (show z < (rs.length : Int) by omega)
      have hld1 := ldB (mp_new A (.cells true (bl P g))) a0 a1
      have hld2 := ldB (mp_new A (.cells true (bl P g))) b0 b1
      have hst1 := stB (mp_new A (.cells true (bl P g))) a0 a1 true
      rw [mp_set] at hst1
      have hst2 := stB (mp_new A (.cells true (bl P (updB g (rdx rs z).1 true)))) b0 b1 true
      rw [mp_set] at hst2
      have done : ∀ g', g' = bst g (rdx rs z) → (∃ y, y ≤ ks.length ∧ A ++ [AObj.cells true (bl P g')] = A ++ [AObj.cells true (bl P (((ks.map (rdx rs)).take y).foldl bst (brnd (ks.map (rdx rs)) t (updB (fun _ => false) s true))))] ∧ y = j + 1) := by
        rintro g' rfl
        refine ⟨j + 1, hlt, ?_, rfl⟩
        rw [map_take_snoc _ hz, List.foldl_append, hg]
        rfl
      by_cases ga : g (rdx rs z).1 = true
      · obtain ⟨y, y1, y2, y3⟩ := done (updB (updB g (rdx rs z).1 true) (rdx rs z).2.1 true) (by unfold bst; rw [if_pos (.inl ga)]; rfl)
        simp (maxSteps := 4000000) -implicitDefEqProofs -dsimp (disch := omega) only [↓AW_skip, ↓AW_ops, ↓AW_seq, ↓AW_cond, ↓AW_block, ↓AOps_nil, ↓AOps_pu, ↓AOps_ld, ↓AOps_ha, ↓AOps_guard, on_some, extK_false, guardB_tf, skipS_some, condB_t, ↓then_normal, ↓inBlock_normal, pval, lval, hval_st, rd_S, rd_C, put_S, putS_none, chkd, isAdr, bput, bgot, cells_agg, splice, partA, eq_self, mk, List.foldl_cons, List.foldl_nil, List.replicate_succ, List.replicate_zero, List.set_cons_zero, List.set_cons_succ, List.getElem?_cons_zero, List.getElem?_cons_succ, List.drop_zero, List.drop_succ_cons, List.drop_nil, List.take_zero, List.take_succ_cons, List.take_nil, Option.getD_some, Option.map_some, List.length_cons, List.length_nil, Nat.reduceAdd, Nat.reduceLeDiff, Nat.reduceEqDiff, Nat.zero_add, List.nil_append, List.append_nil, bin_add, bin_lss, w64, if_true, if_false, Bool.false_eq_true, decide_true, Go.Eng.e1, true_and, ne_eq, not_true_eq_false, hlt', hxm.len, hxm.idx hlt, hxm.ld0 hz 1 false (by decide), hri, hum.ld0 hr 3 true (by decide), e3, idxB, hld1, ga, hst1, hst2]
        exact ⟨y, y1, by simp [Has, rd_s, y3], y2, by omega⟩
      · have ga' : g (rdx rs z).1 = false := by simpa using ga
        by_cases gb : g (rdx rs z).2.1 = true
        · obtain ⟨y, y1, y2, y3⟩ := done (updB (updB g (rdx rs z).1 true) (rdx rs z).2.1 true) (by unfold bst; rw [if_pos (.inr gb)]; rfl)
          simp (maxSteps := 4000000) -implicitDefEqProofs -dsimp (disch := omega) only [↓AW_skip, ↓AW_ops, ↓AW_seq, ↓AW_cond, ↓AW_block, ↓AOps_nil, ↓AOps_pu, ↓AOps_ld, ↓AOps_ha, ↓AOps_guard, on_some, extK_false, guardB_ff, condB_t, ↓then_normal, ↓inBlock_normal, pval, lval, hval_st, rd_S, rd_C, put_S, putS_none, chkd, isAdr, bput, bgot, cells_agg, splice, partA, eq_self, mk, List.foldl_cons, List.foldl_nil, List.replicate_succ, List.replicate_zero, List.set_cons_zero, List.set_cons_succ, List.getElem?_cons_zero, List.getElem?_cons_succ, List.drop_zero, List.drop_succ_cons, List.drop_nil, List.take_zero, List.take_succ_cons, List.take_nil, Option.getD_some, Option.map_some, List.length_cons, List.length_nil, Nat.reduceAdd, Nat.reduceLeDiff, Nat.reduceEqDiff, Nat.zero_add, List.nil_append, List.append_nil, bin_add, bin_lss, w64, if_true, if_false, Bool.false_eq_true, decide_true, Go.Eng.e1, true_and, ne_eq, not_true_eq_false, hlt', hxm.len, hxm.idx hlt, hxm.ld0 hz 1 false (by decide), hri, hum.ld0 hr 3 true (by decide), e3, idxB, hld1, hld2, ga', gb, hst1, hst2]
          exact ⟨y, y1, by simp [Has, rd_s, y3], y2, by omega⟩
        · have gb' : g (rdx rs z).2.1 = false := by simpa using gb
          obtain ⟨y, y1, y2, y3⟩ := done g (by unfold bst; rw [if_neg (by rw [ga', gb']; simp)])
          simp (maxSteps := 4000000) -implicitDefEqProofs -dsimp (disch := omega) only [↓AW_skip, ↓AW_ops, ↓AW_seq, ↓AW_cond, ↓AW_block, ↓AOps_nil, ↓AOps_pu, ↓AOps_ld, ↓AOps_guard, on_some, guardB_ff, condB_t, condB_f, ↓then_normal, ↓inBlock_normal, pval, lval, rd_S, rd_C, put_S, chkd, isAdr, bput, bgot, cells_agg, splice, partA, eq_self, mk, List.foldl_cons, List.foldl_nil, List.replicate_succ, List.replicate_zero, List.set_cons_zero, List.set_cons_succ, List.getElem?_cons_zero, List.getElem?_cons_succ, List.drop_zero, List.drop_succ_cons, List.drop_nil, List.take_zero, List.take_succ_cons, List.take_nil, Option.getD_some, List.length_cons, List.length_nil, Nat.reduceAdd, Nat.reduceLeDiff, Nat.reduceEqDiff, Nat.zero_add, List.nil_append, List.append_nil, bin_add, bin_lss, w64, if_true, if_false, Bool.false_eq_true, decide_true, Go.Eng.e1, true_and, ne_eq, not_true_eq_false, hlt', hxm.len, hxm.idx hlt, hxm.ld0 hz 1 false (by decide), hri, hum.ld0 hr 3 true (by decide), e3, idxB, hld1, hld2, ga', gb']
          exact ⟨y, y1, by simp [Has, rd_s, y3], y2, by omega⟩
    · have hlt' : ¬ ((j : Int) < ks.length) := by omega
      simp (maxSteps := 4000000) -implicitDefEqProofs -dsimp (disch := omega) only [↓AW_ops, ↓AW_seq, ↓AW_cond, ↓AW_exit, ↓AW_ret, ↓AOps_nil, ↓AOps_pu, on_some, condB_f, ↓then_normal, ↓then_exit, ↓inBlock_normal, ↓inBlock_exit, ↓Fin_ret, pval, rd_S, rd_C, put_S, resV, resL, eq_self, mk, List.foldl_cons, List.foldl_nil, List.replicate_succ, List.replicate_zero, List.set_cons_zero, List.set_cons_succ, List.getElem?_cons_zero, List.getElem?_cons_succ, Option.getD_some, List.length_cons, List.length_nil, Nat.reduceAdd, Nat.reduceEqDiff, Nat.zero_add, bin_add, bin_lss, w64, if_true, if_false, decide_false, true_and, reduceCtorEq, hlt', hxm.len]
      refine ⟨t + 1, htl, by simp [Has, rd_s], ?_⟩
      rw [List.take_of_length_le (by simp; omega)] at hg
      rw [← hg]
      exact ⟨rfl, by omega⟩
  · have htl' : ¬ (t : Int) < P := by omega
    have hti : t = P := by omega
    subst hti
    simp (maxSteps := 4000000) -implicitDefEqProofs -dsimp (disch := omega) only [↓AW_ops, ↓AW_seq, ↓AW_cond, ↓AW_exit, ↓AW_ret, ↓AOps_nil, ↓AOps_pu, on_some, condB_f, ↓then_normal, ↓then_exit, ↓inBlock_exit, ↓Fin_ret, pval, rd_S, put_S, resV, resL, chkd, isAdr, bgot, cells_agg, partA, eq_self, mk, List.foldl_cons, List.foldl_nil, List.replicate_succ, List.replicate_zero, List.set_cons_zero, List.set_cons_succ, List.getElem?_cons_zero, List.getElem?_cons_succ, List.drop_zero, List.take_zero, List.take_succ_cons, Option.getD_some, List.length_cons, List.length_nil, Nat.reduceAdd, Nat.reduceLeDiff, Nat.zero_add, bin_lss, if_true, if_false, Bool.false_eq_true, decide_false, htl']
    refine gc_same_all rfl ?_
    unfold rchH
    rw [bl_congr (fun p p0 p1 => brnd_cn hS s0 s1 p0 p1)]
end
end Go.Proofs.Ytkgfcdpckfhknaa

namespace Go.Proofs.Ytkgfcdpckfhknaa
open Go Go.Eng
/-- A road's cost. -/
def wct (rs : List Rd) (k : Int) : Int := (rdx rs k).2.2
theorem Net.wb {P : Int} {rs : List Rd} (h : Net P rs) {k : Int} (h0 : 0 ≤ k) (h1 : k ≤ (rs.length : Int) - 1) : 0 ≤ wct rs k ∧ wct rs k ≤ 99 := by
  have := h.r _ (rdx_at h0 h1).2
  exact this.2.2
theorem Net.nat {P : Int} {rs : List Rd} (h : Net P rs) : ∃ p : Nat, P = p := ⟨P.toNat, by have := h.p1; omega⟩
section
variable {P : Nat} {rs : List Rd} {ks : List Int} {u v : AV} {A : AHeap}
end
section
variable {Q : Int} {rs : List Rd} {ks : List Int} {u v : AV} {A : AHeap}
theorem s17 (hu : L3 A u rs) (P : Int) : ACalls Try.prog 17 [.agg [I P, u]] A (B (decide ((100 : Int) < rs.length))) A := by
  refine acalls hmix Try.func17 (by kernel_rfl) t17 1 rfl (by decide) ?_
  dsimp only [m17]
  simp (maxSteps := 4000000) -implicitDefEqProofs -dsimp (disch := omega) only [↓AW_ops, ↓AW_seq, ↓AW_ret, ↓AOps_nil, ↓AOps_pu, on_some, ↓then_normal, ↓Fin_ret, pval, rd_S, rd_C, put_S, resV, resL, chkd, isAdr, bgot, AV.cells?, partA, eq_self, List.replicate_succ, List.replicate_zero, List.set_cons_zero, List.set_cons_succ, List.getElem?_cons_zero, List.getElem?_cons_succ, List.drop_zero, List.drop_succ_cons, List.take_succ_cons, List.take_nil, Option.getD_some, List.length_cons, List.length_nil, Nat.reduceAdd, Nat.reduceSub, Nat.reduceLeDiff, Nat.zero_add, List.cons_append, List.nil_append, bin_gtr, if_true, if_false, Bool.false_eq_true, hu.len]
  exact gc_same rfl
end
end Go.Proofs.Ytkgfcdpckfhknaa

namespace Go.Proofs.Ytkgfcdpckfhknaa
open Go Go.Eng
/-- The first elements are in order. -/
def SU (w : Int → Int) (zs : List Int) (i : Nat) : Prop := ∀ (p q : Nat) (a b : Int), p < q → q < i → zs[p]? = some a → zs[q]? = some b → w a ≤ w b
theorem SU.one (w : Int → Int) (zs : List Int) : SU w zs 1 := fun p q a b h k => by omega
theorem SU.zero (w : Int → Int) (zs : List Int) : SU w zs 0 := fun p q a b h k => by omega
theorem SU.all {w : Int → Int} {zs : List Int} (h : SU w zs zs.length) : zs.Pairwise (fun a b => w a ≤ w b) := by
  rw [List.pairwise_iff_getElem]
  intro i j hi hj hij
  exact h i j _ _ hij hj (List.getElem?_eq_getElem hi) (List.getElem?_eq_getElem hj)
/-- An element that goes down to its place. -/
structure IS (w : Int → Int) (xs zs : List Int) (i j : Nat) : Prop where
  perm : zs.Perm xs
  a : ∀ (p q : Nat) (a b : Int), p < q → q ≤ i → p ≠ j → q ≠ j → zs[p]? = some a → zs[q]? = some b → w a ≤ w b
  b : ∀ (q : Nat) (x y : Int), j < q → q ≤ i → zs[j]? = some x → zs[q]? = some y → w x ≤ w y
theorem IS.start {w : Int → Int} {xs zs : List Int} {i : Nat} (hp : zs.Perm xs) (h : SU w zs i) : IS w xs zs i i :=
  ⟨hp, fun p q a b h1 h2 _ h4 => h p q a b h1 (by omega), fun q x y h1 h2 => by omega⟩
theorem IS.zero {w : Int → Int} {xs zs : List Int} {i : Nat} (h : IS w xs zs i 0) : SU w zs (i + 1) := by
  intro p q a b h1 h2 h3 h4
  by_cases hp : p = 0
  · subst hp
    exact h.b q a b h1 (by omega) h3 h4
  · exact h.a p q a b h1 (by omega) hp (by omega) h3 h4
theorem IS.stop {w : Int → Int} {xs zs : List Int} {i j : Nat} {x y : Int} (h : IS w xs zs i (j + 1)) (hx : zs[j + 1]? = some x) (hy : zs[j]? = some y) (hxy : ¬ w x < w y) : SU w zs (i + 1) := by
  intro p q a b h1 h2 h3 h4
  by_cases hq : q = j + 1
  · subst hq
    have hbx : b = x := by rw [hx] at h4; exact (Option.some.inj h4).symm
    subst hbx
    by_cases hp : p = j
    · subst hp
      have e : a = y := by rw [hy] at h3; exact (Option.some.inj h3).symm
      rw [e]
      omega
    · have := h.a p j a y (by omega) (by omega) (by omega) (by omega) h3 hy
      omega
  · by_cases hp : p = j + 1
    · subst hp
      exact h.b q a b h1 (by omega) h3 h4
    · exact h.a p q a b h1 (by omega) hp hq h3 h4
theorem swap_get {zs : List Int} {j : Nat} {x y : Int} (hj : j + 1 < zs.length) (k : Nat) : ((zs.set (j + 1) y).set j x)[k]? = if k = j then some x else if k = j + 1 then some y else zs[k]? := by
  rw [List.getElem?_set, List.getElem?_set]
  by_cases h1 : k = j
  · subst h1
    rw [if_pos rfl, if_pos rfl, if_pos (by simp; omega)]
  · rw [if_neg (Ne.symm h1), if_neg h1]
    by_cases h2 : k = j + 1
    · subst h2
      rw [if_pos rfl, if_pos rfl, if_pos hj]
    · rw [if_neg (Ne.symm h2), if_neg h2]
theorem IS.swap {w : Int → Int} {xs zs : List Int} {i j : Nat} {x y : Int} (h : IS w xs zs i (j + 1)) (hi : j + 1 ≤ i) (hx : zs[j + 1]? = some x) (hy : zs[j]? = some y) (hxy : w x < w y) : IS w xs ((zs.set (j + 1) y).set j x) i j := by
  obtain ⟨h1, rfl⟩ := List.getElem?_eq_some_iff.1 hx
  obtain ⟨h2, rfl⟩ := List.getElem?_eq_some_iff.1 hy
  refine ⟨(List.set_set_perm h1 h2).trans h.perm, fun p q a b hpq hqi hp hq ha hb => ?_, fun q a b hjq hqi ha hb => ?_⟩
  · rw [swap_get h1] at ha hb
    rw [if_neg hp] at ha
    rw [if_neg hq] at hb
    by_cases hq1 : q = j + 1
    · rw [if_pos hq1] at hb
      rw [if_neg (by omega)] at ha
      have := h.a p j a zs[j] (by omega) (by omega) (by omega) (by omega) ha hy
      have e := Option.some.inj hb
      rw [← e]
      omega
    · rw [if_neg hq1] at hb
      by_cases hp1 : p = j + 1
      · rw [if_pos hp1] at ha
        have := h.a j q zs[j] b (by omega) hqi (by omega) hq1 hy hb
        have e := Option.some.inj ha
        rw [← e]
        omega
      · rw [if_neg hp1] at ha
        exact h.a p q a b hpq hqi hp1 hq1 ha hb
  · rw [swap_get h1] at ha hb
    rw [if_pos rfl] at ha
    rw [if_neg (by omega)] at hb
    have ha := Option.some.inj ha
    by_cases hq1 : q = j + 1
    · rw [if_pos hq1] at hb
      have e := Option.some.inj hb
      rw [← e, ← ha]
      omega
    · rw [if_neg hq1] at hb
      have := h.b q _ b (by omega) hqi hx hb
      rw [← ha]
      omega
section
variable {P : Nat} {rs : List Rd} {ks : List Int} {u v : AV} {A : AHeap}
theorem s98 {H : AHeap} {q : Nat} (hq : ldA 1 false (.ptr q 1) H = some u) (hu : L3 H u rs) (hn : Net P rs) {i k : Int} (i0 : 0 ≤ i) (i1 : i ≤ (rs.length : Int) - 1) (k0 : 0 ≤ k) (k1 : k ≤ (rs.length : Int) - 1) :
    ACalls Try.prog 98 [I i, I k, .ptr q 0] H (I (wct rs i - wct rs k)) H := by
  refine acalls hmix Try.func98 (by kernel_rfl) t98 3 rfl (by decide) ?_
  obtain ⟨hi, _⟩ := rdx_at i0 i1
  obtain ⟨hk, _⟩ := rdx_at k0 k1
  have wi := hn.wb i0 i1
  have wk := hn.wb k0 k1
  have hii := hu.idxI (k := .i64) i0 (show i < (rs.length : Int) by omega)
  have hki := hu.idxI (k := .i64) k0 (show k < (rs.length : Int) by omega)
  have e1 : (rdx rs i).2.2 = wct rs i := rfl
  have e2 : (rdx rs k).2.2 = wct rs k := rfl
  dsimp only [m98]
  simp (maxSteps := 4000000) -implicitDefEqProofs -dsimp (disch := omega) only [↓AW_ops, ↓AW_seq, ↓AW_ret, ↓AOps_nil, ↓AOps_pu, ↓AOps_ld, on_some, ↓then_normal, ↓Fin_ret, pval, lval, rd_S, rd_C, put_S, resV, resL, partA, eq_self, List.replicate_succ, List.replicate_zero, List.set_cons_zero, List.set_cons_succ, List.getElem?_cons_zero, List.getElem?_cons_succ, List.drop_zero, List.drop_succ_cons, List.take_succ_cons, List.take_nil, Option.getD_some, List.length_cons, List.length_nil, Nat.reduceAdd, Nat.reduceSub, Nat.reduceLeDiff, Nat.zero_add, List.cons_append, List.nil_append, bin_sub, w64, if_true, if_false, Bool.false_eq_true, hq, hii, hki, hu.ld hi 1 2 false (by decide), hu.ld hk 1 2 false (by decide), e3, e1, e2]
  exact gc_same rfl
/-- Comparing two of a list's numbers, wherever they stand. -/
def CmpOK (w : Int → Int) (H : AHeap) (n q : Nat) (xs : List Int) : Prop := ∀ zs : List Int, zs.Perm xs → ∀ x ∈ xs, ∀ y ∈ xs, ACalls Try.prog 98 [I x, I y, .ptr q 0] (H.set n (.cells true (zs.flatMap e1))) (I (w x - w y)) (H.set n (.cells true (zs.flatMap e1)))
set_option maxHeartbeats 8000000 in
theorem c_insC {w : Int → Int} {xs : List Int} {H : AHeap} {n q : Nat} (h : OL 1 e1 A H n v xs) (hl : xs.length ≤ 1000) (hc : CmpOK w H n q xs) : ∃ zs : List Int, ACalls Try.prog 112 [v, I 0, I xs.length, .fn 98 [.ptr q 0]] H (.tuple []) (H.set n (.cells true (zs.flatMap e1))) ∧ zs.Perm xs ∧ zs.Pairwise (fun a b => w a ≤ w b) := by
  have key : ∃ r H', ACalls Try.prog 112 [v, I 0, I xs.length, .fn 98 [.ptr q 0]] H r H' ∧ ∃ zs : List Int, r = .tuple [] ∧ H' = H.set n (.cells true (zs.flatMap e1)) ∧ zs.Perm xs ∧ zs.Pairwise (fun a b => w a ≤ w b) := by
    refine acallsR hmix Try.func112 (by kernel_rfl) t112 _ 4 rfl (by decide) ?_
    dsimp only [m112]
    simp (maxSteps := 4000000) -implicitDefEqProofs -dsimp (disch := omega) only [↓AW_ops, ↓AW_seq, ↓AW_block, ↓AOps_nil, ↓AOps_pu, on_some, ↓then_normal, pval, rd_S, rd_C, put_S, ↓AW_toLoop, List.replicate_succ, List.replicate_zero, List.set_cons_zero, List.set_cons_succ, List.getElem?_cons_zero, List.getElem?_cons_succ, Option.getD_some, Nat.reduceSub, List.cons_append, List.nil_append, bin_add, w64, Int.reduceAdd]
    refine LoopK.by 53 (fun x : Nat × List Int => (1 ≤ x.1 ∧ x.1 ≤ xs.length + 1) ∧ x.2.Perm xs ∧ SU w x.2 x.1) (fun x => [(0, v), (1, I 0), (2, I xs.length), (3, .fn 98 [.ptr q 0]), (8, I x.1)]) (fun x => H.set n (.cells true (x.2.flatMap e1))) (fun x => xs.length + 1 - x.1) (1, xs) ⟨by simp only; omega, List.Perm.refl _, SU.one _ _⟩ rfl (by simp [Has, rd_s]) (by simp only; rw [set_same h.ob]) ?_
    rintro ⟨i, zs⟩ ⟨hi, hpz, hz⟩
    simp only at hi hpz hz
    by_cases hlt : i < xs.length
    · have hlt' : (i : Int) < xs.length := by omega
      simp (maxSteps := 4000000) -implicitDefEqProofs -dsimp (disch := omega) only [↓AW_skip, ↓AW_ops, ↓AW_seq, ↓AW_cond, ↓AW_block, ↓AOps_nil, ↓AOps_pu, on_some, condB_t, ↓then_normal, pval, rd_S, put_S, ↓AW_toLoop, mk, List.foldl_cons, List.foldl_nil, List.replicate_succ, List.replicate_zero, List.set_cons_zero, List.set_cons_succ, List.getElem?_cons_zero, List.getElem?_cons_succ, Option.getD_some, bin_lss, decide_true, hlt']
      refine LoopK.by 53 (fun x : Nat × List Int => x.1 ≤ i ∧ IS w xs x.2 i x.1) (fun x => [(0, v), (1, I 0), (2, I xs.length), (3, .fn 98 [.ptr q 0]), (8, I i), (9, I x.1)]) (fun x => H.set n (.cells true (x.2.flatMap e1))) (fun x => x.1) (i, zs) ⟨by simp only; omega, IS.start hpz hz⟩ rfl (by simp [Has, rd_s]) rfl ?_
      rintro ⟨j, ws⟩ ⟨hj, hs⟩
      simp only at hj hs
      have hlen := hs.perm.length_eq
      have ho := OL_setAll h ws hlen
      cases j with
      | zero =>
        simp (maxSteps := 4000000) -implicitDefEqProofs -dsimp (disch := omega) only [↓AW_ops, ↓AW_seq, ↓AW_cond, ↓AW_exit, ↓AOps_nil, ↓AOps_pu, ↓AOps_guard, on_some, guardB_ft, skipS_some, condB_f, ↓then_normal, ↓then_exit, ↓inBlock_normal, ↓inBlock_exit, ↓FinR_normal, pval, rd_S, rd_C, put_S, resV, resL, eq_self, mk, List.foldl_cons, List.foldl_nil, List.replicate_succ, List.replicate_zero, List.set_cons_zero, List.set_cons_succ, List.getElem?_cons_zero, List.getElem?_cons_succ, Option.getD_some, List.length_cons, List.length_nil, Nat.reduceAdd, Nat.reduceEqDiff, Nat.zero_add, bin_add, bin_gtr, w64, if_true, if_false, Bool.false_eq_true, decide_false, true_and, reduceCtorEq, Int.reduceLT, Int.ofNat_zero]
        exact ⟨(i + 1, ws), ⟨by simp only; omega, hs.perm, hs.zero⟩, by simp [Has, rd_s], rfl, by simp only; omega⟩
      | succ k =>
        have hk1 : k + 1 < ws.length := by omega
        have hk0 : k < ws.length := by omega
        have hjp : (0 : Int) < ((k + 1 : Nat) : Int) := by omega
        have hjm : ((k + 1 : Nat) : Int) - 1 = (k : Int) := by omega
        obtain ⟨x, hx⟩ : ∃ x, ws[k + 1]? = some x := ⟨_, List.getElem?_eq_getElem hk1⟩
        obtain ⟨y, hy⟩ : ∃ y, ws[k]? = some y := ⟨_, List.getElem?_eq_getElem hk0⟩
        have h1 := ho.st hk1 (I y) y rfl
        rw [List.set_set] at h1
        have ho2 := OL_setAll h (ws.set (k + 1) y) (by simp [hlen])
        have h2 := ho2.st (i := k) (by simp; omega) (I x) x rfl
        rw [List.set_set] at h2
        have hswap := hs.swap (x := x) (y := y) hj hx hy
        have hstop := hs.stop hx hy
        generalize hJ : ((k + 1 : Nat) : Int) = J at *
        have hidx1 : idxA 1 v (.int .i64 J) = some (.ptr (nm v) (of v + (k + 1) * 1)) := by rw [← hJ]; exact ho.ls.idx hk1
        simp (maxSteps := 4000000) -implicitDefEqProofs -dsimp (disch := omega) only [↓AW_ops, ↓AW_seq, ↓AOps_pu, ↓AOps_ld, ↓AOps_callv, ↓AOps_guard, on_some, CallF_fn, guardB_tt, pval, lval, rd_S, rd_C, put_S, partA, eq_self, mk, List.foldl_cons, List.foldl_nil, List.replicate_succ, List.replicate_zero, List.set_cons_zero, List.set_cons_succ, List.getElem?_cons_zero, List.getElem?_cons_succ, List.drop_zero, List.take_succ_cons, List.take_nil, Option.getD_some, map_c, map_n, List.length_cons, List.length_nil, Nat.reduceLeDiff, Nat.zero_add, List.cons_append, List.nil_append, bin_sub, bin_gtr, w64, if_true, if_false, Bool.false_eq_true, decide_true, Go.Eng.e1, hjp, hjm, hidx1, ho.ls.ld0 hx 1 false (by decide), ho.ls.idx hk0, ho.ls.ld0 hy 1 false (by decide)]
        refine CallK.of (hc ws hs.perm x (hs.perm.mem_iff.1 (List.mem_of_getElem? hx)) y (hs.perm.mem_iff.1 (List.mem_of_getElem? hy))) ?_
        by_cases hxy : w x < w y
        · have hxy' : w x - w y < 0 := by omega
          simp (maxSteps := 4000000) -implicitDefEqProofs -dsimp (disch := omega) only [↓AW_skip, ↓AW_ops, ↓AW_seq, ↓AW_cond, ↓AW_block, ↓AOps_nil, ↓AOps_pu, ↓AOps_ld, ↓AOps_ha, ↓AOps_guard, on_some, extK_false, extK_same, guardB_tt, condB_t, ↓then_normal, ↓inBlock_normal, pval, lval, hval_st, rd_S, rd_C, put_S, putS_none, partA, eq_self, mk, List.foldl_cons, List.foldl_nil, List.replicate_succ, List.replicate_zero, List.set_cons_zero, List.set_cons_succ, List.getElem?_cons_zero, List.getElem?_cons_succ, List.drop_zero, List.take_succ_cons, List.take_nil, Option.getD_some, Option.map_some, List.length_cons, List.length_nil, Nat.reduceAdd, Nat.reduceLeDiff, Nat.zero_add, bin_sub, bin_lss, w64, if_true, if_false, Bool.false_eq_true, decide_true, Go.Eng.e1, true_and, hxy', hjm, hidx1, ho.ls.ld0 hx 1 false (by decide), ho.ls.idx hk0, ho.ls.ld0 hy 1 false (by decide), h1, h2]
          exact ⟨(k, (ws.set (k + 1) y).set k x), ⟨by simp only; omega, hswap hxy⟩, by simp [Has, rd_s], rfl, by simp only; omega⟩
        · have hxy' : ¬ w x - w y < 0 := by omega
          simp (maxSteps := 4000000) -implicitDefEqProofs -dsimp (disch := omega) only [↓AW_ops, ↓AW_cond, ↓AW_exit, ↓AOps_nil, ↓AOps_pu, ↓AOps_guard, on_some, extK_same, guardB_tt, condB_f, ↓then_normal, ↓then_exit, ↓inBlock_normal, ↓inBlock_exit, ↓FinR_normal, pval, rd_S, rd_C, put_S, resV, resL, eq_self, mk, List.foldl_cons, List.foldl_nil, List.replicate_succ, List.replicate_zero, List.set_cons_zero, List.set_cons_succ, List.getElem?_cons_zero, List.getElem?_cons_succ, Option.getD_some, List.length_cons, List.length_nil, Nat.reduceAdd, Nat.reduceEqDiff, Nat.zero_add, bin_add, bin_lss, w64, if_true, if_false, decide_false, true_and, reduceCtorEq, hxy']
          exact ⟨(i + 1, ws), ⟨by simp only; omega, hs.perm, hstop hxy⟩, by simp [Has, rd_s], rfl, by simp only; omega⟩
    · have hlt' : ¬ (i : Int) < xs.length := by omega
      simp (maxSteps := 4000000) -implicitDefEqProofs -dsimp (disch := omega) only [↓AW_ops, ↓AW_seq, ↓AW_cond, ↓AW_exit, ↓AOps_nil, ↓AOps_pu, on_some, condB_f, ↓then_normal, ↓then_exit, ↓inBlock_exit, ↓FinR_normal, pval, rd_S, put_S, resV, resL, eq_self, mk, List.foldl_cons, List.foldl_nil, List.replicate_succ, List.replicate_zero, List.set_cons_zero, List.set_cons_succ, List.getElem?_cons_zero, List.getElem?_cons_succ, Option.getD_some, bin_lss, if_true, decide_false, hlt']
      have hle := hpz.length_eq
      exact ⟨_, _, gc_all, zs, rfl, rfl, hpz, SU.all (fun p q a b h1 h2 => hz p q a b h1 (by omega))⟩
  obtain ⟨r, H', h1, zs, rfl, rfl, h2, h3⟩ := key
  exact ⟨zs, h1, h2, h3⟩
theorem c_stable {w : Int → Int} {xs : List Int} {H : AHeap} {n q : Nat} (h : OL 1 e1 A H n v xs) (hl : xs.length ≤ 19) (hc : CmpOK w H n q xs) : ∃ zs : List Int, ACalls Try.prog 97 [v, .fn 98 [.ptr q 0]] H (.tuple []) (H.set n (.cells true (zs.flatMap e1))) ∧ zs.Perm xs ∧ zs.Pairwise (fun a b => w a ≤ w b) := by
  obtain ⟨zs, h1, h2, h3⟩ := c_insC h (by omega) hc
  refine ⟨zs, ?_, h2, h3⟩
  have hst : ACalls Try.prog 109 [v, I xs.length, .fn 98 [.ptr q 0]] H (.tuple []) (H.set n (.cells true (zs.flatMap e1))) := by
    refine acalls hmix Try.func109 (by kernel_rfl) t109 3 rfl (by decide) ?_
    have hb : ¬ (20 : Int) ≤ xs.length := by omega
    have hb2 : ¬ (20 : Int) < xs.length := by omega
    dsimp only [m109]
    simp (maxSteps := 4000000) -implicitDefEqProofs -dsimp (disch := omega) only [↓AW_ops, ↓AW_seq, ↓AW_block, ↓AOps_nil, ↓AOps_pu, on_some, ↓then_normal, pval, rd_S, rd_C, put_S, ↓AW_toLoop, List.replicate_succ, List.replicate_zero, List.set_cons_zero, List.set_cons_succ, List.getElem?_cons_zero, List.getElem?_cons_succ, Option.getD_some, Nat.reduceSub, List.cons_append, List.nil_append]
    refine LoopK.by 63 (fun _ : Unit => True) (fun _ => [(0, v), (1, I xs.length), (2, .fn 98 [.ptr q 0]), (6, I 20), (7, I 0), (8, I 20)]) (fun _ => H) (fun _ => 0) () trivial rfl (by simp [Has, rd_s]) rfl ?_
    rintro _ _
    simp (maxSteps := 4000000) -implicitDefEqProofs -dsimp (disch := omega) only [↓AW_ops, ↓AW_seq, ↓AW_cond, ↓AW_exit, ↓AOps_nil, ↓AOps_pu, ↓AOps_call, on_some, condB_f, ↓then_normal, ↓then_exit, ↓inBlock_exit, pval, rd_S, put_S, eq_self, mk, List.foldl_cons, List.foldl_nil, List.replicate_succ, List.replicate_zero, List.set_cons_zero, List.set_cons_succ, List.getElem?_cons_zero, List.getElem?_cons_succ, Option.getD_some, map_c, map_n, bin_leq, if_true, decide_false, hb]
    refine CallK.of h1 ?_
    simp (maxSteps := 4000000) -implicitDefEqProofs -dsimp (disch := omega) only [↓AW_block, ↓AOps_nil, extK_false, ↓then_normal, put_S, ↓AW_toLoop, mk, List.foldl_cons, List.foldl_nil, List.replicate_succ, List.replicate_zero, List.set_cons_zero, List.set_cons_succ]
    refine LoopK.by 63 (fun _ : Unit => True) (fun _ => [(0, v), (1, I xs.length), (2, .fn 98 [.ptr q 0]), (6, I 20)]) (fun _ => H.set n (.cells true (zs.flatMap e1))) (fun _ => 0) () trivial rfl (by simp [Has, rd_s]) rfl ?_
    rintro _ _
    simp (maxSteps := 4000000) -implicitDefEqProofs -dsimp (disch := omega) only [↓AW_ops, ↓AW_seq, ↓AW_cond, ↓AW_exit, ↓AOps_nil, ↓AOps_pu, on_some, condB_f, ↓then_normal, ↓then_exit, ↓inBlock_exit, ↓Fin_normal, pval, rd_S, put_S, resV, resL, eq_self, mk, List.foldl_cons, List.foldl_nil, List.replicate_succ, List.replicate_zero, List.set_cons_zero, List.set_cons_succ, List.getElem?_cons_zero, List.getElem?_cons_succ, Option.getD_some, bin_lss, if_true, decide_false, hb2]
    exact gc_same_all rfl rfl
  refine acalls hmix Try.func97 (by kernel_rfl) t97 2 rfl (by decide) ?_
  dsimp only [m97]
  simp (maxSteps := 4000000) -implicitDefEqProofs -dsimp (disch := omega) only [↓AW_ops, ↓AOps_pu, ↓AOps_call, on_some, pval, rd_S, put_S, List.replicate_succ, List.replicate_zero, List.set_cons_zero, List.set_cons_succ, List.getElem?_cons_zero, List.getElem?_cons_succ, Option.getD_some, map_c, map_n, Nat.reduceSub, List.cons_append, List.nil_append, h.ls.len]
  refine CallK.of hst ?_
  simp (maxSteps := 4000000) -implicitDefEqProofs -dsimp (disch := omega) only [↓AOps_nil, on_some, extK_false, ↓Fin_normal, resV, resL]
  exact gc_same_all rfl rfl
/-- The numbers of all roads. -/
abbrev nums (rs : List Rd) : List Int := plc rs.length
/-- The numbers of all roads, the cheapest first. -/
structure Ord (rs : List Rd) (L : List Int) : Prop where
  p : L.Perm (nums rs)
  s : L.Pairwise (fun a b => wct rs a ≤ wct rs b)
theorem Ord.mem {L : List Int} (h : Ord rs L) {k : Int} : k ∈ L ↔ 0 ≤ k ∧ k ≤ (rs.length : Int) - 1 := by
  rw [h.p.mem_iff, mem_plc]
  omega
theorem Ord.nos {L : List Int} (h : Ord rs L) : Nos rs L := fun k hk => h.mem.1 hk
theorem Ord.nodup {L : List Int} (h : Ord rs L) : L.Nodup := h.p.nodup_iff.2 (plc_nodup _)
theorem Ord.len {L : List Int} (h : Ord rs L) : L.length = rs.length := by rw [h.p.length_eq, plc_len]
set_option maxHeartbeats 8000000 in
theorem c_all (hu : L3 A u rs) (hn : Net P rs) : ∃ r H, ACalls Try.prog 59 [.agg [I P, u]] A r H ∧ A <+: H ∧ ∃ L, L1 H r L ∧ Ord rs L := by
  refine acallsR hmix Try.func59 (by kernel_rfl) t59 _ 1 rfl (by decide) ?_
  have hl14 := hn.l
  have hpA := pre_app A [.cells true [I P, u]]
  have hld1 : ldA 1 false (.ptr A.length 1) (A ++ [.cells true [I P, u]]) = some u := by simp [ldA, partA]
  have hu1 := hu.mono hpA
  dsimp only [m59]
  simp (maxSteps := 4000000) -implicitDefEqProofs -dsimp (disch := omega) only [↓AW_ops, ↓AW_seq, ↓AOps_nil, ↓AOps_pu, ↓AOps_ld, ↓AOps_ha, on_some, extK_app, ↓then_normal, pval, lval, hval_newv, rd_S, rd_C, put_S, cells_agg, List.replicate_succ, List.replicate_zero, List.set_cons_zero, List.set_cons_succ, List.getElem?_cons_zero, List.getElem?_cons_succ, Option.getD_some, Nat.reduceSub, Nat.zero_add, List.cons_append, List.nil_append]
  generalize hA1 : A ++ [.cells true [I P, u]] = A1 at *
  simp (maxSteps := 4000000) -implicitDefEqProofs -dsimp (disch := omega) only [↓AW_block, ↓AOps_nil, ↓AOps_pu, on_some, ↓then_normal, pval, rd_S, rd_C, put_S, ↓AW_toLoop, List.replicate_succ, List.replicate_zero, List.set_cons_zero, List.set_cons_succ, List.getElem?_cons_zero, List.getElem?_cons_succ, Option.getD_some, Nat.reduceSub, List.cons_append, List.nil_append, hld1, hu1.len]
  refine LoopK.by 20 (fun x : Nat × AV × AHeap => x.1 ≤ rs.length ∧ AccL 1 e1 A1 x.2.2 x.2.1 (plc x.1)) (fun x => [(1, .ptr A.length 0), (3, x.2.1), (7, I rs.length), (8, I x.1)]) (fun x => x.2.2) (fun x => rs.length - x.1) (0, .nilS, A1) ⟨by simp only; omega, AccL.nil (List.prefix_refl _)⟩ rfl (by simp [Has, rd_s]) rfl ?_
  rintro ⟨i, z, H⟩ ⟨hi, hac⟩
  simp only at hi hac
  by_cases hlt : i < rs.length
  · have hlt' : (i : Int) < rs.length := by omega
    obtain ⟨v', H2, happ, hacc, _, n, len, rfl, _⟩ := AccL_push2 hac e1_len (by omega) (i : Int) (by rw [plc_len]; simp only [lim]; omega)
    simp only [Go.Eng.e1] at happ
    simp (maxSteps := 4000000) -implicitDefEqProofs -dsimp (disch := omega) only [↓AW_skip, ↓AW_ops, ↓AW_seq, ↓AW_cond, ↓AW_block, ↓AOps_nil, ↓AOps_pu, ↓AOps_ha, on_some, extK_false, extK_app, condB_t, ↓then_normal, ↓inBlock_normal, pval, hval_blds, hval_app, rd_S, rd_C, put_S, cells_int, splice, fillA, repl, eq_self, mk, List.foldl_cons, List.foldl_nil, List.replicate_succ, List.replicate_zero, List.set_cons_zero, List.set_cons_succ, List.getElem?_cons_zero, List.getElem?_cons_succ, List.drop_succ_cons, List.drop_nil, List.take_zero, Option.getD_some, map_c, map_n, List.length_cons, List.length_nil, Nat.reduceAdd, Nat.reduceLeDiff, Nat.zero_add, List.nil_append, List.append_nil, bin_add, bin_lss, w64, if_true, decide_true, true_and, and_true, hlt', happ, List.replicate_zero, repl]
    refine ⟨(i + 1, .sl 1 n 0 len false, H2), ⟨hlt, ?_⟩, by simp [Has, rd_s], rfl, by simp only; omega⟩
    simp only
    rw [plc_succ]
    exact hacc
  · have hlt' : ¬ (i : Int) < rs.length := by omega
    have hil : i = rs.length := by omega
    subst hil
    simp (maxSteps := 4000000) -implicitDefEqProofs -dsimp (disch := omega) only [↓AW_ops, ↓AW_seq, ↓AW_cond, ↓AW_exit, ↓AOps_nil, ↓AOps_pu, ↓AOps_call, on_some, condB_f, ↓then_normal, ↓then_exit, ↓inBlock_exit, pval, rd_S, put_S, eq_self, mk, List.foldl_cons, List.foldl_nil, List.replicate_succ, List.replicate_zero, List.set_cons_zero, List.set_cons_succ, List.getElem?_cons_zero, List.getElem?_cons_succ, Option.getD_some, map_c, map_n, bin_lss, if_true, decide_false, hlt']
    by_cases h0 : rs.length = 0
    · -- there is none
      have hz0 : z = .nilS := by
        rcases hac.2.2 with ⟨_, h4⟩ | ⟨h3, _⟩
        · exact h4
        · rw [plc_len] at h3; omega
      have hpl : plc rs.length = [] := by rw [h0]; rfl
      have hnil : ∀ H : AHeap, ACalls Try.prog 97 [.nilS, .fn 98 [.ptr A.length 0]] H (.tuple []) H := by
        intro H
        have h112 : ACalls Try.prog 112 [.nilS, I 0, I 0, .fn 98 [.ptr A.length 0]] H (.tuple []) H := by
          refine acalls hmix Try.func112 (by kernel_rfl) t112 4 rfl (by decide) ?_
          dsimp only [m112]
          simp (maxSteps := 4000000) -implicitDefEqProofs -dsimp (disch := omega) only [↓AW_ops, ↓AW_seq, ↓AW_block, ↓AOps_nil, ↓AOps_pu, on_some, ↓then_normal, pval, rd_S, rd_C, put_S, ↓AW_toLoop, List.replicate_succ, List.replicate_zero, List.set_cons_zero, List.set_cons_succ, List.getElem?_cons_zero, List.getElem?_cons_succ, Option.getD_some, Nat.reduceSub, List.cons_append, List.nil_append, bin_add, w64, Int.reduceAdd]
          refine LoopK.by 53 (fun _ : Unit => True) (fun _ => [(0, .nilS), (1, I 0), (2, I 0), (3, .fn 98 [.ptr A.length 0]), (8, I 1)]) (fun _ => H) (fun _ => 0) () trivial rfl (by simp [Has, rd_s]) rfl ?_
          rintro _ _
          simp (maxSteps := 4000000) -implicitDefEqProofs -dsimp (disch := omega) only [↓AW_ops, ↓AW_seq, ↓AW_cond, ↓AW_exit, ↓AOps_nil, ↓AOps_pu, on_some, condB_f, ↓then_normal, ↓then_exit, ↓inBlock_exit, ↓Fin_normal, pval, rd_S, put_S, resV, resL, eq_self, mk, List.foldl_cons, List.foldl_nil, List.replicate_succ, List.replicate_zero, List.set_cons_zero, List.set_cons_succ, List.getElem?_cons_zero, List.getElem?_cons_succ, Option.getD_some, bin_lss, if_true, decide_false, Int.reduceLT]
          exact gc_same rfl
        have h109 : ACalls Try.prog 109 [.nilS, I 0, .fn 98 [.ptr A.length 0]] H (.tuple []) H := by
          refine acalls hmix Try.func109 (by kernel_rfl) t109 3 rfl (by decide) ?_
          dsimp only [m109]
          simp (maxSteps := 4000000) -implicitDefEqProofs -dsimp (disch := omega) only [↓AW_ops, ↓AW_seq, ↓AW_block, ↓AOps_nil, ↓AOps_pu, on_some, ↓then_normal, pval, rd_S, rd_C, put_S, ↓AW_toLoop, List.replicate_succ, List.replicate_zero, List.set_cons_zero, List.set_cons_succ, List.getElem?_cons_zero, List.getElem?_cons_succ, Option.getD_some, Nat.reduceSub, List.cons_append, List.nil_append]
          refine LoopK.by 63 (fun _ : Unit => True) (fun _ => [(0, .nilS), (1, I 0), (2, .fn 98 [.ptr A.length 0]), (6, I 20), (7, I 0), (8, I 20)]) (fun _ => H) (fun _ => 0) () trivial rfl (by simp [Has, rd_s]) rfl ?_
          rintro _ _
          simp (maxSteps := 4000000) -implicitDefEqProofs -dsimp (disch := omega) only [↓AW_ops, ↓AW_seq, ↓AW_cond, ↓AW_exit, ↓AOps_nil, ↓AOps_pu, ↓AOps_call, on_some, condB_f, ↓then_normal, ↓then_exit, ↓inBlock_exit, pval, rd_S, put_S, eq_self, mk, List.foldl_cons, List.foldl_nil, List.replicate_succ, List.replicate_zero, List.set_cons_zero, List.set_cons_succ, List.getElem?_cons_zero, List.getElem?_cons_succ, Option.getD_some, map_c, map_n, bin_leq, if_true, decide_false, Int.reduceLE]
          refine CallK.of h112 ?_
          simp (maxSteps := 4000000) -implicitDefEqProofs -dsimp (disch := omega) only [↓AW_block, ↓AOps_nil, extK_same, ↓then_normal, put_S, ↓AW_toLoop, mk, List.foldl_cons, List.foldl_nil, List.replicate_succ, List.replicate_zero, List.set_cons_zero, List.set_cons_succ]
          refine LoopK.by 63 (fun _ : Unit => True) (fun _ => [(0, .nilS), (1, I 0), (2, .fn 98 [.ptr A.length 0]), (6, I 20)]) (fun _ => H) (fun _ => 0) () trivial rfl (by simp [Has, rd_s]) rfl ?_
          rintro _ _
          simp (maxSteps := 4000000) -implicitDefEqProofs -dsimp (disch := omega) only [↓AW_ops, ↓AW_seq, ↓AW_cond, ↓AW_exit, ↓AOps_nil, ↓AOps_pu, on_some, condB_f, ↓then_normal, ↓then_exit, ↓inBlock_exit, ↓Fin_normal, pval, rd_S, put_S, resV, resL, eq_self, mk, List.foldl_cons, List.foldl_nil, List.replicate_succ, List.replicate_zero, List.set_cons_zero, List.set_cons_succ, List.getElem?_cons_zero, List.getElem?_cons_succ, Option.getD_some, bin_lss, if_true, decide_false, Int.reduceLT]
          exact gc_same rfl
        refine acalls hmix Try.func97 (by kernel_rfl) t97 2 rfl (by decide) ?_
        dsimp only [m97]
        simp (maxSteps := 4000000) -implicitDefEqProofs -dsimp (disch := omega) only [↓AW_ops, ↓AOps_pu, ↓AOps_call, on_some, pval, rd_S, put_S, List.replicate_succ, List.replicate_zero, List.set_cons_zero, List.set_cons_succ, List.getElem?_cons_zero, List.getElem?_cons_succ, Option.getD_some, map_c, map_n, Nat.reduceSub, List.cons_append, List.nil_append, lenA]
        refine CallK.of h109 ?_
        simp (maxSteps := 4000000) -implicitDefEqProofs -dsimp (disch := omega) only [↓AOps_nil, on_some, extK_same, ↓Fin_normal, resV, resL]
        exact gc_same rfl
      subst hz0
      refine CallK.of (hnil H) ?_
      simp (maxSteps := 4000000) -implicitDefEqProofs -dsimp (disch := omega) only [↓AW_ops, ↓AW_seq, ↓AW_ret, ↓AOps_nil, ↓AOps_pu, on_some, extK_same, ↓then_normal, ↓FinR_ret, pval, rd_S, put_S, resV, resL, mk, List.foldl_cons, List.foldl_nil, List.replicate_succ, List.replicate_zero, List.set_cons_zero, List.set_cons_succ, List.getElem?_cons_zero, List.getElem?_cons_succ, Option.getD_some]
      exact ⟨_, _, gc_all, hpA.trans hac.1, [], L1_nil _, by rw [show nums rs = [] from hpl], .nil⟩
    · obtain ⟨n, ho, hzv⟩ := AccL_ol hac e1_len (by rw [plc_len]; omega)
      have hcmp : CmpOK (wct rs) H n A.length (plc rs.length) := by
        intro zs hzs x hx y hy
        have ho2 := OL_setAll ho zs hzs.length_eq
        have hx' := mem_plc.1 hx
        have hy' := mem_plc.1 hy
        exact s98 (ld_mono ho2.pre hld1) (hu1.mono ho2.pre) hn hx'.1 (by omega) hy'.1 (by omega)
      obtain ⟨zs, hcs, hp, hs⟩ := c_stable ho (by rw [plc_len]; omega) hcmp
      refine CallK.of hcs ?_
      simp (maxSteps := 4000000) -implicitDefEqProofs -dsimp (disch := omega) only [↓AW_ops, ↓AW_seq, ↓AW_ret, ↓AOps_nil, ↓AOps_pu, on_some, extK_false, ↓then_normal, ↓FinR_ret, pval, rd_S, put_S, resV, resL, mk, List.foldl_cons, List.foldl_nil, List.replicate_succ, List.replicate_zero, List.set_cons_zero, List.set_cons_succ, List.getElem?_cons_zero, List.getElem?_cons_succ, Option.getD_some]
      have ho2 := OL_setAll ho zs hp.length_eq
      exact ⟨_, _, gc_all, hpA.trans ho2.pre, zs, ho2.ls, hp, hs⟩
end
end Go.Proofs.Ytkgfcdpckfhknaa

namespace Go.Proofs.Ytkgfcdpckfhknaa
open Go Go.Eng
section
variable {P : Nat} {rs : List Rd} {ks : List Int} {u v : AV} {A : AHeap}
theorem Nos.take {L : List Int} (h : Nos rs L) (i : Nat) : Nos rs (L.take i) := fun k hk => h k (List.mem_of_mem_take hk)
end
end Go.Proofs.Ytkgfcdpckfhknaa

namespace Go.Proofs.Ytkgfcdpckfhknaa
open Go Go.Eng
def bset (m s : Nat) : List Int := (plc m).filter (fun i => s.testBit i.toNat)
section
variable {P : Nat} {rs : List Rd}
theorem Ord.wb {L : List Int} (h : Ord rs L) (hn : Net P rs) : ∀ k ∈ L, 0 ≤ wct rs k ∧ wct rs k ≤ (99 : Nat) := fun k hk => hn.wb (h.nos k hk).1 (h.nos k hk).2
/-- All places can be joined. -/
def Jbl (P : Nat) (rs : List Rd) : Prop := comps P ((nums rs).map (rdx rs)) = 1
end
end Go.Proofs.Ytkgfcdpckfhknaa

namespace Go.Proofs.Ytkgfcdpckfhknaa
open Go Go.Eng
section
variable {P : Nat} {rs : List Rd} {a b : Int}
/-- Roads of a list up to a cost join two places. -/
def cnT (rs : List Rd) (M : List Int) (t a b : Int) : Prop := Cn ((upTo (wct rs) M t).map (rdx rs)) a b
theorem cnT_mono {M : List Int} {t s : Int} (h : t ≤ s) (hc : cnT rs M t a b) : cnT rs M s a b :=
  map_sub (fun k hk => by
    rw [mem_upTo] at hk ⊢
    exact ⟨hk.1, by omega⟩) hc
theorem cnT_symm {M : List Int} {t : Int} (h : cnT rs M t a b) : cnT rs M t b a := Cn.symm h
noncomputable instance cnTDec (rs : List Rd) (M : List Int) (t a b : Int) : Decidable (cnT rs M t a b) := Classical.propDecidable _
/-- The smallest cost up to which roads of a list join two places. -/
noncomputable def bt (rs : List Rd) (M : List Int) (a b : Int) : Option Int := if a = b then some 0 else ((List.range 100).find? (fun c : Nat => decide (cnT rs M (c : Int) a b))).map Int.ofNat
theorem find_first {f : Nat → Bool} {n c : Nat} (hc : c < n) (h : f c = true) (hn : ∀ j, j < c → f j = false) : (List.range n).find? f = some c := by
  rw [List.find?_eq_some_iff_getElem]
  refine ⟨h, c, by simpa using hc, by simp, fun j hj => ?_⟩
  rw [List.getElem_range, hn j hj]
  rfl
theorem bt_at {M : List Int} {c : Int} (hab : ¬ a = b) (c0 : 0 ≤ c) (c1 : c ≤ 99) (h : cnT rs M c a b) (hn : ¬ cnT rs M (c - 1) a b) : bt rs M a b = some c := by
  unfold bt
  rw [if_neg hab, find_first (c := c.toNat) (by omega) (by
    refine decide_eq_true ?_
    rw [Int.toNat_of_nonneg c0]
    exact h) (fun j hj => decide_eq_false (fun hh => hn (cnT_mono (by omega) hh)))]
  show some (Int.ofNat c.toNat) = _
  congr 1
  exact Int.toNat_of_nonneg c0
theorem bt_none {M : List Int} (hab : ¬ a = b) (h : ¬ cnT rs M 99 a b) : bt rs M a b = none := by
  unfold bt
  rw [if_neg hab, Option.map_eq_none_iff, List.find?_eq_none]
  intro j hj
  have := List.mem_range.1 hj
  simp only [decide_eq_true_eq]
  exact fun hh => h (cnT_mono (by omega) hh)
theorem bt_spec {M : List Int} {c : Int} (h : bt rs M a b = some c) : (a = b ∧ c = 0) ∨ (¬ a = b ∧ (0 ≤ c ∧ c ≤ 99) ∧ cnT rs M c a b ∧ ∀ t, cnT rs M t a b → 0 ≤ t → c ≤ t) := by
  unfold bt at h
  by_cases hab : a = b
  · rw [if_pos hab] at h
    exact .inl ⟨hab, (Option.some.inj h).symm⟩
  · rw [if_neg hab] at h
    cases hf : (List.range 100).find? (fun c : Nat => decide (cnT rs M (c : Int) a b)) with
    | none => rw [hf] at h; cases h
    | some j =>
      rw [hf] at h
      have hc : c = (j : Int) := (Option.some.inj h).symm
      subst hc
      rw [List.find?_eq_some_iff_getElem] at hf
      obtain ⟨h1, i, hi, hij, hn⟩ := hf
      rw [List.getElem_range] at hij
      subst hij
      have hi100 : i < 100 := by simpa using hi
      refine .inr ⟨hab, by omega, of_decide_eq_true h1, fun t ht t0 => ?_⟩
      refine Classical.byContradiction (fun hlt => ?_)
      have := hn t.toNat (by omega)
      rw [List.getElem_range] at this
      have h2 : cnT rs M ((t.toNat : Nat) : Int) a b := by rw [Int.toNat_of_nonneg t0]; exact ht
      rw [decide_eq_true h2] at this
      cases this
theorem bt_none' {M : List Int} (hb : ∀ k ∈ M, wct rs k ≤ 99) (h : bt rs M a b = none) : ¬ a = b ∧ ∀ t, ¬ cnT rs M t a b := by
  by_cases hab : a = b
  · unfold bt at h
    rw [if_pos hab] at h
    cases h
  · refine ⟨hab, fun t ht => ?_⟩
    unfold bt at h
    rw [if_neg hab, Option.map_eq_none_iff, List.find?_eq_none] at h
    have h1 := h 99 (by simp)
    simp only [decide_eq_true_eq] at h1
    refine h1 (map_sub (fun k hk => ?_) ht)
    rw [mem_upTo] at hk ⊢
    exact ⟨hk.1, hb k hk.1⟩
theorem bt_symm (M : List Int) : bt rs M a b = bt rs M b a := by
  unfold bt
  by_cases hab : a = b
  · rw [if_pos hab, if_pos hab.symm]
  · rw [if_neg hab, if_neg (fun e => hab e.symm)]
    have : (fun c : Nat => decide (cnT rs M (c : Int) a b)) = (fun c : Nat => decide (cnT rs M (c : Int) b a)) := by
      funext c
      exact decide_eq_decide.2 ⟨cnT_symm, cnT_symm⟩
    rw [this]
/-- What is found by taking one road after another. -/
def LS (rs : List Rd) (L : List Int) (a b c : Int) (ok : Bool) : Prop :=
  (a = b ∧ c = 0 ∧ ok = true) ∨ (¬ a = b ∧ ok = true ∧ ∃ (i : Nat) (k : Int), L[i]? = some k ∧ c = wct rs k ∧ Cn ((L.take (i + 1)).map (rdx rs)) a b ∧ ¬ Cn ((L.take i).map (rdx rs)) a b) ∨
  (¬ a = b ∧ ok = false ∧ c = 0 ∧ ¬ Cn (L.map (rdx rs)) a b)
theorem LS_bt {L M : List Int} {c : Int} {ok : Bool} (hs : L.Pairwise (fun x y => wct rs x ≤ wct rs y)) (hM : ∀ k, k ∈ L ↔ k ∈ M) (hb : ∀ k ∈ L, 0 ≤ wct rs k ∧ wct rs k ≤ 99) (h : LS rs L a b c ok) : bt rs M a b = (if ok = true then some c else none) ∧ (ok = false → c = 0) := by
  rcases h with ⟨h1, h2, h3⟩ | ⟨h1, h2, i, k, h3, h4, h5, h6⟩ | ⟨h1, h2, h3, h4⟩
  · subst h3; subst h2
    refine ⟨?_, fun e => by cases e⟩
    unfold bt
    rw [if_pos h1, if_pos rfl]
  · subst h2
    refine ⟨?_, fun e => by cases e⟩
    rw [if_pos rfl]
    have hkL := List.mem_of_getElem? h3
    have hkb := hb k hkL
    have hil := (List.getElem?_eq_some_iff.1 h3).1
    have hke := (List.getElem?_eq_some_iff.1 h3).2
    refine bt_at h1 (by omega) (by omega) (map_sub (fun x hx => ?_) h5) (fun hh => h6 (map_sub (fun x hx => ?_) hh))
    · rw [mem_upTo]
      refine ⟨(hM x).1 (List.mem_of_mem_take hx), ?_⟩
      obtain ⟨j, hj, hje⟩ := List.mem_iff_getElem.1 hx
      rw [List.length_take] at hj
      rw [List.getElem_take] at hje
      by_cases hji : j = i
      · subst hji
        rw [h4, ← hje, hke]
        exact Int.le_refl _
      · have := List.pairwise_iff_getElem.1 hs j i (by omega) hil (by omega)
        rw [hje, hke] at this
        omega
    · rw [mem_upTo] at hx
      obtain ⟨j, hj, hje⟩ := List.mem_iff_getElem.1 ((hM x).2 hx.1)
      have hji : j < i := by
        refine Classical.byContradiction (fun hn => ?_)
        by_cases he : i = j
        · subst he
          rw [hke] at hje
          rw [← hje] at hx
          omega
        · have := List.pairwise_iff_getElem.1 hs i j hil hj (by omega)
          rw [hje, hke] at this
          omega
      rw [List.mem_take_iff_getElem]
      exact ⟨j, by omega, hje⟩
  · subst h2; subst h3
    refine ⟨?_, fun _ => rfl⟩
    simp only [Bool.false_eq_true, if_false]
    refine bt_none h1 (fun hh => h4 (map_sub (fun x hx => ?_) hh))
    rw [mem_upTo] at hx
    exact (hM x).2 hx.1
end
end Go.Proofs.Ytkgfcdpckfhknaa

namespace Go.Proofs.Ytkgfcdpckfhknaa
open Go Go.Eng
section
variable {P : Nat} {rs : List Rd} {ks : List Int} {u v : AV} {A : AHeap}
end
section
variable {Q : Int} {rs : List Rd} {u : AV} {A : AHeap}
end
end Go.Proofs.Ytkgfcdpckfhknaa

namespace Go.Proofs.Ytkgfcdpckfhknaa
open Go Go.Eng
/-- Rows of another list, put together anew. -/
structure Sel (A H : AHeap) (v : AV) (ws : List (AV × List Int)) : Prop where
  acc : AccL 1 e0 A H v ws
  inn : ∀ x ∈ ws, L1 A x.1 x.2
theorem Sel.nil {A H : AHeap} (h : A <+: H) : Sel A H .nilS [] := ⟨AccL.nil h, by simp⟩
theorem Sel.push {A H : AHeap} {v : AV} {ws : List (AV × List Int)} (h : Sel A H v ws) {x : AV × List Int} (hx : L1 A x.1 x.2) (hl : ws.length + 1 ≤ lim) :
    ∃ v' H2, appA 1 (H ++ [.cells true [x.1]]) v (.sl 1 H.length 0 1 true) = some (v', H2) ∧ Sel A H2 v' (ws ++ [x]) ∧ v'.cells? = some [v'] := by
  obtain ⟨v', H2, happ, hacc⟩ := h.acc.push e0_len x hl
  refine ⟨v', H2, happ, ⟨hacc, fun y hy => ?_⟩, Ls_cells (AccL_ls hacc e0_len)⟩
  rcases List.mem_append.1 hy with hy | hy
  · exact h.inn y hy
  · have : y = x := by simpa using hy
    rw [this]; exact hx
section
variable {P : Nat} {rs : List Rd} {ks : List Int} {u v : AV} {A : AHeap}
noncomputable instance jblDec (P : Nat) (rs : List Rd) : Decidable (Jbl P rs) := by unfold Jbl; infer_instance
end
section
variable {Q : Int} {rs : List Rd} {ks : List Int} {u v : AV} {A : AHeap}
end
section
variable {P : Nat} {rs : List Rd} {ks : List Int} {u v : AV} {A : AHeap}
end
end Go.Proofs.Ytkgfcdpckfhknaa

namespace Go.Proofs.Ytkgfcdpckfhknaa
open Go Go.Eng
section
variable {P : Nat} {rs : List Rd} {ks : List Int} {u v : AV} {A : AHeap}
set_option maxHeartbeats 8000000 in
theorem c_least {L : List Int} (hu : L3 A u rs) (hx : L1 A v L) (hn : Net P rs) (hk : Nos rs L) (hl : L.length ≤ 1000000) {a b : Int} (ha : 0 ≤ a ∧ a < P) (hb : 0 ≤ b ∧ b < P) : ∃ c ok, ACalls Try.prog 62 [.agg [I P, u], v, I a, I b] A (.tuple [I c, B ok]) A ∧ LS rs L a b c ok := by
  have key : ∃ r H', ACalls Try.prog 62 [.agg [I P, u], v, I a, I b] A r H' ∧ ∃ c ok, r = .tuple [I c, B ok] ∧ H' = A ∧ LS rs L a b c ok := by
    refine acallsR hmix Try.func62 (by kernel_rfl) t62 _ 4 rfl (by decide) ?_
    have hP7 := hn.p7
    by_cases hab : a = b
    · subst hab
      dsimp only [m62]
      simp (maxSteps := 4000000) -implicitDefEqProofs -dsimp (disch := omega) only [↓AW_ops, ↓AW_seq, ↓AW_cond, ↓AW_ret, ↓AOps_nil, ↓AOps_pu, on_some, condB_t, ↓then_normal, ↓then_ret, ↓FinR_ret, pval, rd_S, rd_C, put_S, resV, resL, cells_agg, eq_self, List.replicate_succ, List.replicate_zero, List.set_cons_zero, List.set_cons_succ, List.getElem?_cons_zero, List.getElem?_cons_succ, Option.getD_some, Nat.reduceSub, List.cons_append, List.nil_append, bin_eql, decide_true]
      exact ⟨_, _, gc_all, 0, true, rfl, rfl, .inl ⟨rfl, rfl, rfl⟩⟩
    dsimp only [m62]
    simp (maxSteps := 4000000) -implicitDefEqProofs -dsimp (disch := omega) only [↓AW_skip, ↓AW_ops, ↓AW_seq, ↓AW_cond, ↓AW_block, ↓AOps_nil, ↓AOps_pu, on_some, condB_f, ↓then_normal, pval, rd_S, rd_C, put_S, ↓AW_toLoop, cells_agg, List.replicate_succ, List.replicate_zero, List.set_cons_zero, List.set_cons_succ, List.getElem?_cons_zero, List.getElem?_cons_succ, Option.getD_some, Nat.reduceSub, List.cons_append, List.nil_append, bin_eql, decide_false, hab, hx.len]
    refine LoopK.by 44 (fun x : Nat × AV × AHeap => x.1 ≤ L.length ∧ AccL 1 e1 A x.2.2 x.2.1 (L.take x.1) ∧ ¬ Cn ((L.take x.1).map (rdx rs)) a b) (fun x => [(2, I a), (3, I b), (4, .agg [I P, u]), (10, x.2.1), (17, v), (18, I L.length), (19, I x.1)]) (fun x => x.2.2) (fun x => L.length - x.1) (0, .nilS, A) ⟨by simp only; omega, by rw [List.take_zero]; exact AccL.nil (List.prefix_refl _), by rw [List.take_zero]; exact fun h => hab h.nil⟩ rfl (by simp [Has, rd_s]) rfl ?_
    rintro ⟨i, y, H⟩ ⟨hi, hac, hnc⟩
    simp only at hi hac hnc
    have hxH := hx.mono hac.1
    by_cases hlt : i < L.length
    · obtain ⟨z, hz⟩ : ∃ z, L[i]? = some z := ⟨_, List.getElem?_eq_getElem hlt⟩
      have hlt' : (i : Int) < L.length := by omega
      obtain ⟨k0, k1⟩ := hk z (List.mem_of_getElem? hz)
      obtain ⟨hr, _⟩ := rdx_at k0 k1
      have htk : L.take (i + 1) = L.take i ++ [z] := by rw [List.take_add_one, hz]; rfl
      obtain ⟨v', H2, happ, hacc, _, n, len, rfl, _⟩ := AccL_push2 hac e1_len (by omega) z (by rw [List.length_take]; simp only [lim]; omega)
      rw [← htk] at hacc
      simp only [Go.Eng.e1] at happ
      simp (maxSteps := 4000000) -implicitDefEqProofs -dsimp (disch := omega) only [↓AW_skip, ↓AW_ops, ↓AW_seq, ↓AW_cond, ↓AW_block, ↓AOps_nil, ↓AOps_pu, ↓AOps_ld, ↓AOps_ha, ↓AOps_call, on_some, extK_false, extK_app, condB_t, ↓then_normal, pval, lval_ld, hval_blds, hval_app, rd_S, put_S, chkd, bgot, cells_int, splice, partA, fillA, repl, eq_self, mk, List.foldl_cons, List.foldl_nil, List.replicate_succ, List.replicate_zero, List.set_cons_zero, List.set_cons_succ, List.getElem?_cons_zero, List.getElem?_cons_succ, List.drop_zero, List.drop_succ_cons, List.drop_nil, List.take_zero, List.take_succ_cons, List.take_nil, Option.getD_some, map_c, map_n, List.length_cons, List.length_nil, Nat.reduceAdd, Nat.reduceLeDiff, Nat.reduceEqDiff, Nat.zero_add, List.nil_append, List.append_nil, bin_lss, if_true, if_false, Bool.false_eq_true, decide_true, Go.Eng.e1, and_true, hlt', hxH.idx hlt, hxH.ld0 hz 1 false (by decide), happ, List.replicate_zero, repl]
      refine CallK.of (s99 (hu.mono hacc.1) (AccL_ls hacc e1_len) hn (fun k hk2 => hk k (List.mem_of_mem_take hk2)) (by rw [List.length_take]; omega)) ?_
      have hpm := pre_app H2 [.mp (mI P (lab ((L.take (i + 1)).map (rdx rs))))]
      have hm := mp_new H2 (.mp (mI P (lab ((L.take (i + 1)).map (rdx rs)))))
      have hacm := hacc.mono hpm
      have hum := hu.mono hacm.1
      have hpA := hacm.1
      generalize H2 ++ [AObj.mp (mI P (lab ((L.take (i + 1)).map (rdx rs))))] = H3 at *
      have hri := hum.idxI (k := .i64) k0 (show z < (rs.length : Int) by omega)
      have hla := lkI' hm ha.1 ha.2
      have hlb := lkI' hm hb.1 hb.2
      by_cases hc : Cn ((L.take (i + 1)).map (rdx rs)) a b
      · have hq : lab ((L.take (i + 1)).map (rdx rs)) a = lab ((L.take (i + 1)).map (rdx rs)) b := (lab_eq_iff ha.1 hb.1).2 hc
        have hwe : (rdx rs z).2.2 = wct rs z := rfl
        simp (maxSteps := 4000000) -implicitDefEqProofs -dsimp (disch := omega) only [↓AW_ops, ↓AW_seq, ↓AW_cond, ↓AW_ret, ↓AOps_nil, ↓AOps_pu, ↓AOps_ld, on_some, extK_false, condB_t, ↓then_normal, ↓then_ret, ↓inBlock_ret, ↓FinR_ret, pval, lval_ld, lval_look, rd_S, rd_C, put_S, resV, resL, chkd, isAdr, bgot, cells_agg, partA, eq_self, mk, List.foldl_cons, List.foldl_nil, List.replicate_succ, List.replicate_zero, List.set_cons_zero, List.set_cons_succ, List.getElem?_cons_zero, List.getElem?_cons_succ, List.drop_zero, List.drop_succ_cons, List.take_succ_cons, List.take_nil, Option.getD_some, List.length_cons, List.length_nil, Nat.reduceAdd, Nat.reduceLeDiff, Nat.zero_add, bin_eql, if_true, if_false, Bool.false_eq_true, decide_true, hla, hlb, hq, hri, hum.ld hr 1 2 false (by decide), e3, hwe]
        exact ⟨_, _, gc_val hpA rfl, wct rs z, true, rfl, rfl, .inr (.inl ⟨hab, rfl, i, z, hz, rfl, hc, hnc⟩)⟩
      · have hq : ¬ lab ((L.take (i + 1)).map (rdx rs)) a = lab ((L.take (i + 1)).map (rdx rs)) b := fun e => hc ((lab_eq_iff ha.1 hb.1).1 e)
        simp (maxSteps := 4000000) -implicitDefEqProofs -dsimp (disch := omega) only [↓AW_skip, ↓AW_ops, ↓AW_seq, ↓AW_cond, ↓AOps_nil, ↓AOps_pu, ↓AOps_ld, on_some, extK_false, condB_f, ↓then_normal, ↓inBlock_normal, pval, lval_look, rd_S, rd_C, put_S, eq_self, mk, List.foldl_cons, List.foldl_nil, List.replicate_succ, List.replicate_zero, List.set_cons_zero, List.set_cons_succ, List.getElem?_cons_zero, List.getElem?_cons_succ, Option.getD_some, List.length_cons, List.length_nil, Nat.reduceAdd, Nat.zero_add, bin_add, bin_eql, w64, decide_false, true_and, hla, hlb, hq]
        exact ⟨(i + 1, .sl 1 n 0 len false, H3), ⟨hlt, hacm, hc⟩, by simp [Has, rd_s], rfl, by simp only; omega⟩
    · have hlt' : ¬ ((i : Int) < L.length) := by omega
      rw [List.take_of_length_le (by omega)] at hnc
      simp (maxSteps := 4000000) -implicitDefEqProofs -dsimp (disch := omega) only [↓AW_ops, ↓AW_seq, ↓AW_cond, ↓AW_exit, ↓AW_ret, ↓AOps_nil, ↓AOps_pu, on_some, condB_f, ↓then_normal, ↓then_exit, ↓inBlock_exit, ↓FinR_ret, pval, rd_S, rd_C, put_S, resV, resL, eq_self, mk, List.foldl_cons, List.foldl_nil, List.replicate_succ, List.replicate_zero, List.set_cons_zero, List.set_cons_succ, List.getElem?_cons_zero, List.getElem?_cons_succ, Option.getD_some, bin_lss, if_true, decide_false, hlt']
      exact ⟨_, _, gc_val hac.1 rfl, 0, false, rfl, rfl, .inr (.inr ⟨hab, rfl, rfl, hnc⟩)⟩
  obtain ⟨r, H', h1, c, ok, rfl, rfl, h2⟩ := key
  exact ⟨c, ok, h1, h2⟩
/-- The roads whose cost is at most so much, but one. -/
def chB (rs : List Rd) (c k : Int) : List Int := (nums rs).filter (fun i => decide (¬ i = k ∧ wct rs i ≤ c))
theorem c_cheap (hu : L3 A u rs) (hn : Net P rs) (c k : Int) : ∃ r H, ACalls Try.prog 67 [.agg [I P, u], I c, I k] A r H ∧ A <+: H ∧ L1 H r (chB rs c k) := by
  refine acallsR hmix Try.func67 (by kernel_rfl) t67 _ 3 rfl (by decide) ?_
  have hl14 := hn.l
  dsimp only [m67]
  simp (maxSteps := 4000000) -implicitDefEqProofs -dsimp (disch := omega) only [↓AW_ops, ↓AW_seq, ↓AW_block, ↓AOps_nil, ↓AOps_pu, on_some, ↓then_normal, pval, rd_S, rd_C, put_S, ↓AW_toLoop, cells_agg, List.replicate_succ, List.replicate_zero, List.set_cons_zero, List.set_cons_succ, List.getElem?_cons_zero, Option.getD_some, Nat.reduceSub, List.cons_append, List.nil_append]
  refine LoopK.by 34 (fun x : Nat × AV × AHeap => x.1 ≤ rs.length ∧ AccL 1 e1 A x.2.2 x.2.1 ((plc x.1).filter (fun i => decide (¬ i = k ∧ wct rs i ≤ c)))) (fun x => [(1, I c), (2, I k), (3, .agg [I P, u]), (7, x.2.1), (8, I x.1)]) (fun x => x.2.2) (fun x => rs.length - x.1) (0, .nilS, A) ⟨by simp only; omega, AccL.nil (List.prefix_refl _)⟩ rfl (by simp [Has, rd_s]) rfl ?_
  rintro ⟨i, y, H⟩ ⟨hi, hac⟩
  simp only at hi hac
  have huH := hu.mono hac.1
  by_cases hlt : i < rs.length
  · have hlt' : (i : Int) < rs.length := by omega
    obtain ⟨hr, _⟩ := rdx_at (rs := rs) (k := (i : Int)) (by omega) (by omega)
    rw [Int.toNat_natCast] at hr
    have hwe : (rdx rs (i : Int)).2.2 = wct rs (i : Int) := rfl
    have hfl := filt_len (fun i => decide (¬ i = k ∧ wct rs i ≤ c)) i
    by_cases h1 : (i : Int) = k
    · subst h1
      simp (maxSteps := 4000000) -implicitDefEqProofs -dsimp (disch := omega) only [↓AW_skip, ↓AW_ops, ↓AW_seq, ↓AW_cond, ↓AW_block, ↓AOps_nil, ↓AOps_pu, ↓AOps_guard, on_some, guardB_ft, skipS_some, condB_t, condB_f, ↓then_normal, ↓inBlock_normal, pval, rd_S, rd_C, put_S, chkd, isAdr, bgot, cells_agg, partA, eq_self, mk, List.foldl_cons, List.foldl_nil, List.replicate_succ, List.replicate_zero, List.set_cons_zero, List.set_cons_succ, List.getElem?_cons_zero, List.getElem?_cons_succ, List.drop_zero, List.drop_succ_cons, List.take_succ_cons, List.take_nil, Option.getD_some, List.length_cons, List.length_nil, Nat.reduceAdd, Nat.reduceLeDiff, Nat.zero_add, bin_add, bin_neq, bin_lss, w64, if_true, if_false, Bool.false_eq_true, decide_true, decide_false, true_and, not_true_eq_false, hlt', huH.len]
      refine ⟨(i + 1, y, H), ⟨hlt, ?_⟩, by simp [Has, rd_s], rfl, by simp only; omega⟩
      simp only
      rw [filt_succ, if_neg (by simp), List.append_nil]
      exact hac
    · by_cases h2 : wct rs (i : Int) ≤ c
      · obtain ⟨v', H2, happ, hacc, _, n, len, rfl, _⟩ := AccL_push2 hac e1_len (by omega) (i : Int) (by simp only [lim]; omega)
        simp only [Go.Eng.e1] at happ
        simp (maxSteps := 4000000) -implicitDefEqProofs -dsimp (disch := omega) only [↓AW_skip, ↓AW_ops, ↓AW_seq, ↓AW_cond, ↓AW_block, ↓AOps_nil, ↓AOps_pu, ↓AOps_ld, ↓AOps_ha, ↓AOps_guard, on_some, extK_false, extK_app, guardB_tt, condB_t, ↓then_normal, ↓inBlock_normal, pval, lval, hval_blds, hval_app, rd_S, rd_C, put_S, chkd, isAdr, bgot, cells_agg, cells_int, splice, partA, fillA, repl, eq_self, mk, List.foldl_cons, List.foldl_nil, List.replicate_succ, List.replicate_zero, List.set_cons_zero, List.set_cons_succ, List.getElem?_cons_zero, List.getElem?_cons_succ, List.drop_zero, List.drop_succ_cons, List.drop_nil, List.take_zero, List.take_succ_cons, List.take_nil, Option.getD_some, map_c, map_n, List.length_cons, List.length_nil, Nat.reduceAdd, Nat.reduceLeDiff, Nat.zero_add, List.nil_append, List.append_nil, bin_add, bin_neq, bin_lss, bin_leq, w64, if_true, if_false, Bool.false_eq_true, decide_true, true_and, and_true, not_false_eq_true, hlt', huH.len, h1, huH.idx hlt, huH.ld hr 1 2 false (by decide), e3, hwe, h2, happ, List.replicate_zero, repl]
        refine ⟨(i + 1, .sl 1 n 0 len false, H2), ⟨hlt, ?_⟩, by simp [Has, rd_s], rfl, by simp only; omega⟩
        simp only
        rw [filt_succ, if_pos (by simp [h1, h2])]
        exact hacc
      · simp (maxSteps := 4000000) -implicitDefEqProofs -dsimp (disch := omega) only [↓AW_skip, ↓AW_ops, ↓AW_seq, ↓AW_cond, ↓AW_block, ↓AOps_nil, ↓AOps_pu, ↓AOps_ld, ↓AOps_guard, on_some, guardB_tt, condB_t, condB_f, ↓then_normal, ↓inBlock_normal, pval, lval, rd_S, rd_C, put_S, chkd, isAdr, bgot, cells_agg, partA, eq_self, mk, List.foldl_cons, List.foldl_nil, List.replicate_succ, List.replicate_zero, List.set_cons_zero, List.set_cons_succ, List.getElem?_cons_zero, List.getElem?_cons_succ, List.drop_zero, List.drop_succ_cons, List.take_succ_cons, List.take_nil, Option.getD_some, List.length_cons, List.length_nil, Nat.reduceAdd, Nat.reduceLeDiff, Nat.zero_add, bin_add, bin_neq, bin_lss, bin_leq, w64, if_true, if_false, Bool.false_eq_true, decide_true, decide_false, true_and, not_false_eq_true, hlt', huH.len, h1, huH.idx hlt, huH.ld hr 1 2 false (by decide), e3, hwe, h2]
        refine ⟨(i + 1, y, H), ⟨hlt, ?_⟩, by simp [Has, rd_s], rfl, by simp only; omega⟩
        simp only
        rw [filt_succ, if_neg (by simp [h1, h2]), List.append_nil]
        exact hac
  · have hlt' : ¬ (i : Int) < rs.length := by omega
    have hie : i = rs.length := by omega
    subst hie
    simp (maxSteps := 4000000) -implicitDefEqProofs -dsimp (disch := omega) only [↓AW_ops, ↓AW_seq, ↓AW_cond, ↓AW_exit, ↓AW_ret, ↓AOps_nil, ↓AOps_pu, on_some, condB_f, ↓then_normal, ↓then_exit, ↓inBlock_exit, ↓FinR_ret, pval, rd_S, put_S, resV, resL, chkd, isAdr, bgot, cells_agg, partA, eq_self, mk, List.foldl_cons, List.foldl_nil, List.replicate_succ, List.replicate_zero, List.set_cons_zero, List.set_cons_succ, List.getElem?_cons_zero, List.getElem?_cons_succ, List.drop_zero, List.drop_succ_cons, List.take_succ_cons, List.take_nil, Option.getD_some, List.length_cons, List.length_nil, Nat.reduceAdd, Nat.reduceLeDiff, Nat.zero_add, bin_lss, if_true, if_false, Bool.false_eq_true, decide_false, hlt', huH.len]
    exact ⟨_, _, gc_all, hac.1, AccL_ls hac e1_len⟩
theorem chB_nos (c k : Int) : Nos rs (chB rs c k) := fun i hi => by
  have := mem_plc.1 (List.mem_filter.1 hi).1
  omega
theorem chB_cn {c k a b : Int} : Cn ((chB rs c k).map (rdx rs)) a b ↔ cnT rs ((nums rs).filter (fun i => decide (¬ i = k))) c a b := by
  unfold cnT
  refine ⟨map_sub (fun i hi => ?_), map_sub (fun i hi => ?_)⟩
  · rw [mem_upTo, List.mem_filter]
    have := List.mem_filter.1 hi
    simp only [decide_eq_true_eq] at this ⊢
    exact ⟨⟨this.1, this.2.1⟩, this.2.2⟩
  · rw [mem_upTo, List.mem_filter] at hi
    unfold chB
    rw [List.mem_filter]
    simp only [decide_eq_true_eq] at hi ⊢
    exact ⟨hi.1.1, hi.1.2, hi.2⟩
theorem nums_no {k : Int} (h : k < 0) : ∀ i, i ∈ (nums rs).filter (fun i => decide (¬ i = k)) ↔ i ∈ nums rs := fun i => by
  rw [List.mem_filter, mem_plc, decide_eq_true_eq]
  omega
end
section
variable {Q : Int} {rs : List Rd} {ks : List Int} {u v : AV} {A : AHeap} {a b : Int}
/-- The error of a net and two places. -/
def pE (Q : Int) (rs : List Rd) (a b : Int) : Int := if vE Q rs = 0 then (if (0 ≤ a ∧ a ≤ Q - 1) ∧ (0 ≤ b ∧ b ≤ Q - 1) then 0 else 4) else vE Q rs
theorem pE_v (h : ¬ vE Q rs = 0) : pE Q rs a b = vE Q rs := by unfold pE; rw [if_neg h]
theorem pE_4 (h : vE Q rs = 0) (h2 : ¬ ((0 ≤ a ∧ a ≤ Q - 1) ∧ (0 ≤ b ∧ b ≤ Q - 1))) : pE Q rs a b = 4 := by unfold pE; rw [if_pos h, if_neg h2]
theorem pE_0 : pE Q rs a b = 0 ↔ Net Q rs ∧ (0 ≤ a ∧ a ≤ Q - 1) ∧ (0 ≤ b ∧ b ≤ Q - 1) := by
  rw [← vE_0]
  unfold pE
  constructor
  · intro h
    split at h
    · rename_i h1
      split at h
      · rename_i h2; exact ⟨h1, h2⟩
      · cases h
    · rename_i h1; exact absurd h h1
  · rintro ⟨h1, h2⟩
    rw [if_pos h1, if_pos h2]
theorem L1_two (A : AHeap) (x y : Int) : L1 (A ++ [.cells true [I x, I y]]) (.sl 1 A.length 0 2 true) [x, y] := ⟨e1_len, by simp [slCells, cellsAt, e1]⟩
theorem notOf_2 {c x y : Int} : notOf c [x, y] = true ↔ ¬ ((0 ≤ x ∧ x ≤ c - 1) ∧ (0 ≤ y ∧ y ≤ c - 1)) := by
  unfold notOf
  simp only [List.any_cons, List.any_nil, Bool.or_false, Bool.or_eq_true, Bool.not_eq_true', decide_eq_false_iff_not]
  omega
theorem s72 (hu : L3 A u rs) (hP : W Q) (a b : Int) : ACalls Try.prog 72 [.agg [I Q, u], I a, I b] A (I (pE Q rs a b)) A := by
  refine acalls hmix Try.func72 (by kernel_rfl) t72 3 rfl (by decide) ?_
  dsimp only [m72]
  simp (maxSteps := 4000000) -implicitDefEqProofs -dsimp (disch := omega) only [↓AW_ops, ↓AW_seq, ↓AOps_nil, ↓AOps_pu, ↓AOps_call, on_some, ↓then_normal, pval, rd_S, rd_C, put_S, chkd, bgot, AV.cells?, partA, eq_self, List.replicate_succ, List.replicate_zero, List.set_cons_zero, List.set_cons_succ, List.getElem?_cons_zero, List.getElem?_cons_succ, List.drop_zero, List.take_succ_cons, List.take_nil, Option.getD_some, map_c, map_n, List.length_cons, List.length_nil, Nat.reduceAdd, Nat.reduceSub, Nat.reduceLeDiff, Nat.reduceEqDiff, Nat.zero_add, List.cons_append, List.nil_append, if_true, if_false]
  refine CallK.of (s28 hu hP) ?_
  by_cases h0 : vE Q rs = 0
  · have hn := vE_0.1 h0
    have := hn.p1
    have := hn.p7
    simp (maxSteps := 4000000) -implicitDefEqProofs -dsimp (disch := omega) only [↓AW_skip, ↓AW_ops, ↓AW_seq, ↓AW_cond, ↓AOps_nil, ↓AOps_pu, ↓AOps_ha, ↓AOps_call, on_some, extK_app, extK_same, condB_f, ↓then_normal, pval, hval, rd_S, rd_C, put_S, chkd, isAdr, bgot, AV.cells?, splice, partA, fillA, repl, eq_self, List.replicate_succ, List.replicate_zero, List.set_cons_zero, List.set_cons_succ, List.getElem?_cons_zero, List.getElem?_cons_succ, List.drop_zero, List.drop_succ_cons, List.drop_nil, List.take_zero, List.take_succ_cons, Option.getD_some, map_c, map_n, List.length_cons, List.length_nil, Nat.reduceAdd, Nat.reduceSub, Nat.reduceLeDiff, Nat.zero_add, List.cons_append, List.nil_append, List.append_nil, bin_neq, if_true, if_false, Bool.false_eq_true, decide_false, and_true, not_true_eq_false, h0, List.replicate_zero, repl]
    refine CallK.of (s58 (L1_two A a b) (by simp) (c := Q) (by omega)) ?_
    by_cases h1 : notOf Q [a, b] = true
    · rw [if_pos h1, pE_4 h0 (notOf_2.1 h1)]
      simp (maxSteps := 4000000) -implicitDefEqProofs -dsimp (disch := omega) only [↓AW_ret, ↓AOps_nil, ↓AOps_pu, on_some, extK_same, ↓then_normal, ↓Fin_ret, pval, rd_S, put_S, resV, resL, List.replicate_succ, List.replicate_zero, List.set_cons_zero, List.set_cons_succ, List.getElem?_cons_zero, List.getElem?_cons_succ, Option.getD_some, Nat.reduceSub, List.cons_append, List.nil_append]
      exact gc_val (pre_app _ _) rfl
    · have h2 : (0 ≤ a ∧ a ≤ Q - 1) ∧ (0 ≤ b ∧ b ≤ Q - 1) := Classical.byContradiction (fun h => h1 (notOf_2.2 h))
      rw [if_neg h1, pE_0.2 ⟨hn, h2⟩]
      simp (maxSteps := 4000000) -implicitDefEqProofs -dsimp (disch := omega) only [↓AW_ret, ↓AOps_nil, ↓AOps_pu, on_some, extK_same, ↓then_normal, ↓Fin_ret, pval, rd_S, put_S, resV, resL, List.replicate_succ, List.replicate_zero, List.set_cons_zero, List.set_cons_succ, List.getElem?_cons_zero, List.getElem?_cons_succ, Option.getD_some, Nat.reduceSub, List.cons_append, List.nil_append]
      exact gc_val (pre_app _ _) rfl
  · rw [pE_v h0]
    simp (maxSteps := 4000000) -implicitDefEqProofs -dsimp (disch := omega) only [↓AW_ops, ↓AW_seq, ↓AW_cond, ↓AW_ret, ↓AOps_nil, ↓AOps_pu, on_some, extK_same, condB_t, ↓then_normal, ↓then_ret, ↓Fin_ret, pval, rd_S, rd_C, put_S, resV, resL, List.replicate_succ, List.replicate_zero, List.set_cons_zero, List.set_cons_succ, List.getElem?_cons_zero, List.getElem?_cons_succ, Option.getD_some, Nat.reduceSub, List.cons_append, List.nil_append, bin_neq, decide_true, not_false_eq_true, h0]
    exact gc_same rfl
theorem s77 (hu : L3 A u rs) (hP : W Q) (a b : Int) : ACalls Try.prog 77 [.agg [I Q, u], I a, I b] A (I (pE Q rs a b)) A := by
  refine acalls hmix Try.func77 (by kernel_rfl) t77 3 rfl (by decide) ?_
  dsimp only [m77]
  simp (maxSteps := 4000000) -implicitDefEqProofs -dsimp (disch := omega) only [↓AW_ops, ↓AW_seq, ↓AOps_nil, ↓AOps_pu, ↓AOps_call, on_some, ↓then_normal, pval, rd_S, rd_C, put_S, chkd, bgot, AV.cells?, partA, eq_self, List.replicate_succ, List.replicate_zero, List.set_cons_zero, List.set_cons_succ, List.getElem?_cons_zero, List.getElem?_cons_succ, List.drop_zero, List.take_succ_cons, List.take_nil, Option.getD_some, map_c, map_n, List.length_cons, List.length_nil, Nat.reduceAdd, Nat.reduceSub, Nat.reduceLeDiff, Nat.reduceEqDiff, Nat.zero_add, List.cons_append, List.nil_append, if_true, if_false]
  refine CallK.of (s22 hu hP) ?_
  by_cases h0 : vE Q rs = 0
  case neg =>
    rw [pE_v h0]
    simp (maxSteps := 4000000) -implicitDefEqProofs -dsimp (disch := omega) only [↓AW_ops, ↓AW_seq, ↓AW_cond, ↓AW_ret, ↓AOps_nil, ↓AOps_pu, on_some, extK_same, condB_t, ↓then_normal, ↓then_ret, ↓Fin_ret, pval, rd_S, rd_C, put_S, resV, resL, List.replicate_succ, List.replicate_zero, List.set_cons_zero, List.set_cons_succ, List.getElem?_cons_zero, List.getElem?_cons_succ, Option.getD_some, Nat.reduceSub, List.cons_append, List.nil_append, bin_neq, decide_true, not_false_eq_true, h0]
    exact gc_same rfl
  have hn := vE_0.1 h0
  have := hn.p1
  have := hn.p7
  simp (maxSteps := 4000000) -implicitDefEqProofs -dsimp (disch := omega) only [↓AW_skip, ↓AW_ops, ↓AW_seq, ↓AW_cond, ↓AOps_nil, ↓AOps_pu, ↓AOps_call, on_some, extK_same, condB_f, ↓then_normal, pval, rd_S, rd_C, put_S, chkd, isAdr, bgot, AV.cells?, partA, eq_self, List.replicate_succ, List.replicate_zero, List.set_cons_zero, List.set_cons_succ, List.getElem?_cons_zero, List.getElem?_cons_succ, List.drop_zero, List.take_zero, List.take_succ_cons, Option.getD_some, map_c, map_n, List.length_cons, List.length_nil, Nat.reduceAdd, Nat.reduceSub, Nat.reduceLeDiff, Nat.zero_add, List.cons_append, List.nil_append, bin_sub, bin_neq, w64, if_true, if_false, Bool.false_eq_true, decide_false, not_true_eq_false, h0]
  refine CallK.of (c_wi _ _ _ _) ?_
  by_cases h1 : 0 ≤ a ∧ a ≤ Q - 1
  case neg =>
    rw [pE_4 h0 (fun hh => h1 hh.1)]
    simp (maxSteps := 4000000) -implicitDefEqProofs -dsimp (disch := omega) only [↓AW_ops, ↓AW_seq, ↓AW_cond, ↓AW_ret, ↓AOps_nil, ↓AOps_pu, ↓AOps_guard, on_some, extK_same, guardB_tf, skipS_some, condB_t, ↓then_normal, ↓then_ret, ↓Fin_ret, pval, rd_S, rd_C, put_S, resV, resL, eq_self, List.replicate_succ, List.replicate_zero, List.set_cons_zero, List.set_cons_succ, List.getElem?_cons_zero, List.getElem?_cons_succ, Option.getD_some, Nat.reduceSub, List.cons_append, List.nil_append, if_true, Bool.not_false, decide_false, h1]
    exact gc_same rfl
  simp (maxSteps := 4000000) -implicitDefEqProofs -dsimp (disch := omega) only [↓AOps_pu, ↓AOps_call, ↓AOps_guard, on_some, extK_same, guardB_ff, pval, rd_S, rd_C, put_S, chkd, isAdr, bgot, AV.cells?, partA, eq_self, List.replicate_succ, List.replicate_zero, List.set_cons_zero, List.set_cons_succ, List.getElem?_cons_zero, List.getElem?_cons_succ, List.drop_zero, List.take_zero, List.take_succ_cons, Option.getD_some, map_c, map_n, List.length_cons, List.length_nil, Nat.reduceAdd, Nat.reduceSub, Nat.reduceLeDiff, Nat.zero_add, List.cons_append, List.nil_append, bin_sub, w64, if_true, if_false, Bool.false_eq_true, Bool.not_true, decide_true, and_true, h1]
  refine CallK.of (c_wi _ _ _ _) ?_
  by_cases h2 : 0 ≤ b ∧ b ≤ Q - 1
  case neg =>
    rw [pE_4 h0 (fun hh => h2 hh.2)]
    simp (maxSteps := 4000000) -implicitDefEqProofs -dsimp (disch := omega) only [↓AW_ops, ↓AW_seq, ↓AW_cond, ↓AW_ret, ↓AOps_nil, ↓AOps_pu, ↓AOps_guard, on_some, extK_same, guardB_ff, condB_t, ↓then_normal, ↓then_ret, ↓Fin_ret, pval, rd_S, rd_C, put_S, resV, resL, List.replicate_succ, List.replicate_zero, List.set_cons_zero, List.set_cons_succ, List.getElem?_cons_zero, List.getElem?_cons_succ, Option.getD_some, Nat.reduceSub, List.cons_append, List.nil_append, if_false, Bool.false_eq_true, Bool.not_false, decide_false, h2]
    exact gc_same rfl
  rw [pE_0.2 ⟨hn, h1, h2⟩]
  simp (maxSteps := 4000000) -implicitDefEqProofs -dsimp (disch := omega) only [↓AW_skip, ↓AW_ops, ↓AW_seq, ↓AW_cond, ↓AW_ret, ↓AOps_nil, ↓AOps_pu, ↓AOps_guard, on_some, extK_same, guardB_ff, condB_f, ↓then_normal, ↓Fin_ret, pval, rd_S, rd_C, put_S, resV, resL, List.replicate_succ, List.replicate_zero, List.set_cons_zero, List.set_cons_succ, List.getElem?_cons_zero, List.getElem?_cons_succ, Option.getD_some, Nat.reduceSub, List.cons_append, List.nil_append, if_false, Bool.false_eq_true, Bool.not_true, decide_true, and_true, h2]
  exact gc_same rfl
/-- The smallest worst of a way: the cost, whether there is one, the error. -/
noncomputable def wC (Q : Int) (rs : List Rd) (a b : Int) : Int := if pE Q rs a b = 0 then (bt rs (nums rs) a b).getD 0 else 0
noncomputable def wB (Q : Int) (rs : List Rd) (a b : Int) : Bool := decide (pE Q rs a b = 0) && (bt rs (nums rs) a b).isSome
theorem s25 (hu : L3 A u rs) (hP : W Q) (a b : Int) : ACalls Try.prog 25 [.agg [I Q, u], I a, I b] A (.tuple [I (wC Q rs a b), B (wB Q rs a b), I (pE Q rs a b)]) A := by
  refine acalls hmix Try.func25 (by kernel_rfl) t25 3 rfl (by decide) ?_
  dsimp only [m25]
  simp (maxSteps := 4000000) -implicitDefEqProofs -dsimp (disch := omega) only [↓AW_ops, ↓AW_seq, ↓AOps_nil, ↓AOps_pu, ↓AOps_call, on_some, ↓then_normal, pval, rd_S, rd_C, put_S, chkd, bgot, AV.cells?, partA, eq_self, List.replicate_succ, List.replicate_zero, List.set_cons_zero, List.set_cons_succ, List.getElem?_cons_zero, List.getElem?_cons_succ, List.drop_zero, List.take_succ_cons, List.take_nil, Option.getD_some, map_c, map_n, List.length_cons, List.length_nil, Nat.reduceAdd, Nat.reduceSub, Nat.reduceLeDiff, Nat.reduceEqDiff, Nat.zero_add, List.cons_append, List.nil_append, if_true, if_false]
  refine CallK.of (s72 hu hP a b) ?_
  by_cases h0 : pE Q rs a b = 0
  · obtain ⟨hn, ha, hb⟩ := pE_0.1 h0
    obtain ⟨P, rfl⟩ := hn.nat
    have hl14 := hn.l
    have e1 : wC P rs a b = (bt rs (nums rs) a b).getD 0 := if_pos h0
    have e2 : wB P rs a b = (bt rs (nums rs) a b).isSome := by unfold wB; rw [decide_eq_true h0, Bool.true_and]
    rw [e1, e2, h0]
    simp (maxSteps := 4000000) -implicitDefEqProofs -dsimp (disch := omega) only [↓AW_skip, ↓AW_ops, ↓AW_seq, ↓AW_cond, ↓AOps_nil, ↓AOps_pu, ↓AOps_call, on_some, extK_same, condB_f, ↓then_normal, pval, rd_S, rd_C, put_S, chkd, bgot, partA, eq_self, List.replicate_succ, List.replicate_zero, List.set_cons_zero, List.set_cons_succ, List.getElem?_cons_zero, List.getElem?_cons_succ, List.drop_zero, List.take_succ_cons, List.take_nil, Option.getD_some, map_c, map_n, List.length_cons, List.length_nil, Nat.reduceAdd, Nat.reduceSub, Nat.reduceLeDiff, Nat.reduceEqDiff, Nat.zero_add, List.cons_append, List.nil_append, bin_neq, if_true, if_false, decide_false, not_true_eq_false]
    obtain ⟨r1, H1, c1, p1, L, hL, hO⟩ := c_all hu hn
    refine CallK.of c1 ?_
    simp (maxSteps := 4000000) -implicitDefEqProofs -dsimp (disch := omega) only [↓AOps_pu, ↓AOps_call, on_some, extK_false, pval, rd_S, put_S, List.replicate_succ, List.replicate_zero, List.set_cons_zero, List.set_cons_succ, List.getElem?_cons_zero, List.getElem?_cons_succ, Option.getD_some, map_c, map_n, Nat.reduceSub, List.cons_append, List.nil_append]
    obtain ⟨c, ok, c2, hLS⟩ := c_least (hu.mono p1) hL hn hO.nos (by rw [hO.len]; omega) (a := a) (b := b) (by omega) (by omega)
    refine CallK.of c2 ?_
    obtain ⟨hbt, hok⟩ := LS_bt (M := nums rs) hO.s (fun k => hO.p.mem_iff) (fun k hk => hn.wb (hO.nos k hk).1 (hO.nos k hk).2) hLS
    rw [hbt]
    cases ok with
    | true =>
      simp (maxSteps := 4000000) -implicitDefEqProofs -dsimp (disch := omega) only [↓AW_ops, ↓AW_seq, ↓AW_ret, ↓AOps_nil, ↓AOps_pu, on_some, extK_same, ↓then_normal, ↓Fin_ret, pval, rd_S, rd_C, put_S, resV, resL, eq_self, List.replicate_succ, List.replicate_zero, List.set_cons_zero, List.set_cons_succ, List.getElem?_cons_zero, List.getElem?_cons_succ, Option.getD_some, Nat.reduceSub, List.cons_append, List.nil_append, if_true, Option.isSome_some]
      exact gc_val p1 rfl
    | false =>
      rw [hok rfl]
      simp (maxSteps := 4000000) -implicitDefEqProofs -dsimp (disch := omega) only [↓AW_ops, ↓AW_seq, ↓AW_ret, ↓AOps_nil, ↓AOps_pu, on_some, extK_same, ↓then_normal, ↓Fin_ret, pval, rd_S, rd_C, put_S, resV, resL, List.replicate_succ, List.replicate_zero, List.set_cons_zero, List.set_cons_succ, List.getElem?_cons_zero, List.getElem?_cons_succ, Option.getD_some, Nat.reduceSub, List.cons_append, List.nil_append, if_false, Bool.false_eq_true, Option.isSome_none, Option.getD_none]
      exact gc_val p1 rfl
  · have e1 : wC Q rs a b = 0 := if_neg h0
    have e2 : wB Q rs a b = false := by unfold wB; rw [decide_eq_false h0, Bool.false_and]
    rw [e1, e2]
    simp (maxSteps := 4000000) -implicitDefEqProofs -dsimp (disch := omega) only [↓AW_ops, ↓AW_seq, ↓AW_cond, ↓AW_ret, ↓AOps_nil, ↓AOps_pu, on_some, extK_same, condB_t, ↓then_normal, ↓then_ret, ↓Fin_ret, pval, rd_S, rd_C, put_S, resV, resL, List.replicate_succ, List.replicate_zero, List.set_cons_zero, List.set_cons_succ, List.getElem?_cons_zero, List.getElem?_cons_succ, Option.getD_some, Nat.reduceSub, List.cons_append, List.nil_append, bin_neq, decide_true, not_false_eq_true, h0]
    exact gc_same rfl
theorem s80 (x : Bool) (A : AHeap) : ACalls Try.prog 80 [B x] A (I (if x = true then 1 else 0)) A := by
  refine acalls hmix Try.func80 (by kernel_rfl) t80 1 rfl (by decide) ?_
  cases x with
  | true => dsimp only [m80]
            simp (maxSteps := 4000000) -implicitDefEqProofs -dsimp (disch := omega) only [↓AW_ops, ↓AW_seq, ↓AW_cond, ↓AW_ret, ↓AOps_nil, ↓AOps_pu, on_some, condB_t, ↓then_normal, ↓then_ret, ↓Fin_ret, pval, rd_S, rd_C, put_S, resV, resL, eq_self, List.replicate_succ, List.replicate_zero, List.set_cons_zero, List.set_cons_succ, List.getElem?_cons_zero, List.getElem?_cons_succ, Option.getD_some, Nat.reduceSub, List.cons_append, List.nil_append, if_true]; exact gc_same rfl
  | false => dsimp only [m80]
             simp (maxSteps := 4000000) -implicitDefEqProofs -dsimp (disch := omega) only [↓AW_skip, ↓AW_ops, ↓AW_seq, ↓AW_cond, ↓AW_ret, ↓AOps_nil, ↓AOps_pu, on_some, condB_f, ↓then_normal, ↓Fin_ret, pval, rd_S, rd_C, put_S, resV, resL, List.replicate_succ, List.replicate_zero, List.set_cons_zero, List.set_cons_succ, List.getElem?_cons_zero, List.getElem?_cons_succ, Option.getD_some, Nat.reduceSub, List.cons_append, List.nil_append, if_false, Bool.false_eq_true]; exact gc_same rfl
set_option maxHeartbeats 8000000 in
theorem s35 (hu : L3 A u rs) (hP : W Q) (a b : Int) : ACalls Try.prog 35 [.agg [I Q, u], I a, I b] A (.tuple [I (wC Q rs a b), B (wB Q rs a b), I (pE Q rs a b)]) A := by
  refine acalls hmix Try.func35 (by kernel_rfl) t35 3 rfl (by decide) ?_
  dsimp only [m35]
  simp (maxSteps := 4000000) -implicitDefEqProofs -dsimp (disch := omega) only [↓AW_ops, ↓AW_seq, ↓AOps_nil, ↓AOps_pu, ↓AOps_call, on_some, ↓then_normal, pval, rd_S, rd_C, put_S, chkd, bgot, AV.cells?, partA, eq_self, List.replicate_succ, List.replicate_zero, List.set_cons_zero, List.set_cons_succ, List.getElem?_cons_zero, List.getElem?_cons_succ, List.drop_zero, List.take_succ_cons, List.take_nil, Option.getD_some, map_c, map_n, List.length_cons, List.length_nil, Nat.reduceAdd, Nat.reduceSub, Nat.reduceLeDiff, Nat.reduceEqDiff, Nat.zero_add, List.cons_append, List.nil_append, if_true, if_false]
  refine CallK.of (s77 hu hP a b) ?_
  by_cases h0 : pE Q rs a b = 0
  case neg =>
    have e1 : wC Q rs a b = 0 := if_neg h0
    have e2 : wB Q rs a b = false := by unfold wB; rw [decide_eq_false h0, Bool.false_and]
    rw [e1, e2]
    simp (maxSteps := 4000000) -implicitDefEqProofs -dsimp (disch := omega) only [↓AW_ops, ↓AW_seq, ↓AW_cond, ↓AW_ret, ↓AOps_nil, ↓AOps_pu, on_some, extK_same, condB_t, ↓then_normal, ↓then_ret, ↓Fin_ret, pval, rd_S, rd_C, put_S, resV, resL, List.replicate_succ, List.replicate_zero, List.set_cons_zero, List.set_cons_succ, List.getElem?_cons_zero, List.getElem?_cons_succ, Option.getD_some, Nat.reduceSub, List.cons_append, List.nil_append, bin_neq, decide_true, not_false_eq_true, h0]
    exact gc_same rfl
  obtain ⟨hn, ha, hb⟩ := pE_0.1 h0
  obtain ⟨P, rfl⟩ := hn.nat
  have hl14 := hn.l
  have e1 : wC P rs a b = (bt rs (nums rs) a b).getD 0 := if_pos h0
  have e2 : wB P rs a b = (bt rs (nums rs) a b).isSome := by unfold wB; rw [decide_eq_true h0, Bool.true_and]
  rw [e1, e2, h0]
  simp (maxSteps := 4000000) -implicitDefEqProofs -dsimp (disch := omega) only [↓AW_skip, ↓AW_ops, ↓AW_seq, ↓AW_cond, ↓AW_block, ↓AOps_nil, ↓AOps_pu, on_some, extK_same, condB_f, ↓then_normal, pval, rd_S, rd_C, put_S, ↓AW_toLoop, eq_self, List.replicate_succ, List.replicate_zero, List.set_cons_zero, List.set_cons_succ, List.getElem?_cons_zero, List.getElem?_cons_succ, Option.getD_some, Nat.reduceSub, List.cons_append, List.nil_append, bin_neq, decide_false, not_true_eq_false]
  refine LoopK.by 37 (fun x : Nat × AHeap => x.1 ≤ 100 ∧ A <+: x.2 ∧ ∀ j : Nat, j < x.1 → ¬ cnT rs (nums rs) (j : Int) a b) (fun x => [(1, I a), (2, I b), (3, .agg [I P, u]), (10, I x.1)]) (fun x => x.2) (fun x => 100 - x.1) (0, A) ⟨by simp only; omega, List.prefix_refl _, fun j hj => by simp at hj⟩ rfl (by simp [Has, rd_s]) rfl ?_
  rintro ⟨c, H⟩ ⟨hc, hp, hno⟩
  simp only at hc hp hno
  by_cases hlt : c < 100
  · have hlt' : (c : Int) ≤ 99 := by omega
    simp (maxSteps := 4000000) -implicitDefEqProofs -dsimp (disch := omega) only [↓AW_skip, ↓AW_ops, ↓AW_seq, ↓AW_cond, ↓AW_block, ↓AOps_nil, ↓AOps_pu, ↓AOps_call, on_some, condB_t, ↓then_normal, pval, rd_S, rd_C, put_S, chkd, bgot, partA, eq_self, mk, List.foldl_cons, List.foldl_nil, List.replicate_succ, List.replicate_zero, List.set_cons_zero, List.set_cons_succ, List.getElem?_cons_zero, List.getElem?_cons_succ, List.drop_zero, List.take_succ_cons, List.take_nil, Option.getD_some, map_c, map_n, List.length_cons, List.length_nil, Nat.reduceAdd, Nat.reduceLeDiff, Nat.reduceEqDiff, Nat.zero_add, bin_leq, if_true, if_false, decide_true, Int.reduceNeg, hlt']
    obtain ⟨r1, H1, c1, p1, hL⟩ := c_cheap (hu.mono hp) hn (c : Int) (-1)
    refine CallK.of c1 ?_
    simp (maxSteps := 4000000) -implicitDefEqProofs -dsimp (disch := omega) only [↓AOps_call, extK_false, rd_S, put_S, mk, List.foldl_cons, List.foldl_nil, List.replicate_succ, List.replicate_zero, List.set_cons_zero, List.set_cons_succ, List.getElem?_cons_zero, List.getElem?_cons_succ, Option.getD_some, map_c, map_n]
    refine CallK.of (s66 ((hu.mono hp).mono p1) hL hn (chB_nos _ _) (by have := List.length_filter_le (fun i => decide (¬ i = -1 ∧ wct rs i ≤ (c : Int))) (nums rs); rw [plc_len] at this; unfold chB; omega) (s := a) (by omega) (by omega)) ?_
    have hm := mp_new H1 (.cells true (bl P (fun p => decide (Cn ((chB rs (c : Int) (-1)).map (rdx rs)) a p))))
    have hp3 : A <+: rchH H1 P ((chB rs (c : Int) (-1)).map (rdx rs)) a := (hp.trans p1).trans (pre_app _ _)
    have hld := ldB hm (k := b) (by omega) (by omega)
    have hiff : Cn ((chB rs (c : Int) (-1)).map (rdx rs)) a b ↔ cnT rs (nums rs) (c : Int) a b := by
      rw [chB_cn]
      unfold cnT
      refine ⟨map_sub (fun i hi => ?_), map_sub (fun i hi => ?_)⟩
      · rw [mem_upTo] at hi ⊢; exact ⟨(nums_no (by omega) i).1 hi.1, hi.2⟩
      · rw [mem_upTo] at hi ⊢; exact ⟨(nums_no (by omega) i).2 hi.1, hi.2⟩
    unfold rchH at hp3 ⊢
    by_cases hcn : cnT rs (nums rs) (c : Int) a b
    · rw [decide_eq_true (hiff.2 hcn)] at hld
      by_cases hab : a = b
      · have hbt : bt rs (nums rs) a b = some 0 := by unfold bt; rw [if_pos hab]
        have hd : decide (a = b) = true := decide_eq_true hab
        simp (maxSteps := 4000000) -implicitDefEqProofs -dsimp (disch := omega) only [↓AW_ops, ↓AW_seq, ↓AW_cond, ↓AOps_nil, ↓AOps_pu, ↓AOps_ld, ↓AOps_call, on_some, extK_app, condB_t, ↓then_normal, pval, lval, rd_S, put_S, mk, List.foldl_cons, List.foldl_nil, List.replicate_succ, List.replicate_zero, List.set_cons_zero, List.set_cons_succ, List.getElem?_cons_zero, List.getElem?_cons_succ, Option.getD_some, map_c, map_n, bin_neq, Bool.not_true, decide_not, Int.reduceNeg, idxB, hld, hd]
        refine CallK.of (s80 false _) ?_
        rw [hbt]
        simp (maxSteps := 4000000) -implicitDefEqProofs -dsimp (disch := omega) only [↓AW_ret, ↓AOps_nil, ↓AOps_pu, on_some, extK_same, ↓then_normal, ↓then_ret, ↓inBlock_ret, ↓Fin_ret, pval, rd_S, rd_C, put_S, resV, resL, mk, List.foldl_cons, List.foldl_nil, List.replicate_succ, List.replicate_zero, List.set_cons_zero, List.set_cons_succ, List.getElem?_cons_zero, List.getElem?_cons_succ, Option.getD_some, bin_mul, w64, if_false, Bool.false_eq_true, Int.reduceNeg, Int.mul_zero, Option.isSome_some]
        exact gc_val hp3 rfl
      · have hd : decide (a = b) = false := decide_eq_false hab
        have hbt : bt rs (nums rs) a b = some (c : Int) := bt_at hab (by omega) (by omega) hcn (fun hh => by
          by_cases hc0 : c = 0
          · subst hc0
            refine hab ?_
            have : (upTo (wct rs) (nums rs) (((0 : Nat) : Int) - 1)) = [] := by
              rw [List.eq_nil_iff_forall_not_mem]
              intro k hk
              rw [mem_upTo, mem_plc] at hk
              have := hn.wb hk.1.1 (by omega)
              omega
            unfold cnT at hh
            rw [this] at hh
            exact hh.nil
          · refine hno (c - 1) (by omega) ?_
            have : ((c - 1 : Nat) : Int) = (c : Int) - 1 := by omega
            rw [this]
            exact hh)
        simp (maxSteps := 4000000) -implicitDefEqProofs -dsimp (disch := omega) only [↓AW_ops, ↓AW_seq, ↓AW_cond, ↓AOps_nil, ↓AOps_pu, ↓AOps_ld, ↓AOps_call, on_some, extK_app, condB_t, ↓then_normal, pval, lval, rd_S, put_S, mk, List.foldl_cons, List.foldl_nil, List.replicate_succ, List.replicate_zero, List.set_cons_zero, List.set_cons_succ, List.getElem?_cons_zero, List.getElem?_cons_succ, Option.getD_some, map_c, map_n, bin_neq, Bool.not_false, decide_not, Int.reduceNeg, idxB, hld, hd]
        refine CallK.of (s80 true _) ?_
        rw [hbt]
        simp (maxSteps := 4000000) -implicitDefEqProofs -dsimp (disch := omega) only [↓AW_ret, ↓AOps_nil, ↓AOps_pu, on_some, extK_same, ↓then_normal, ↓then_ret, ↓inBlock_ret, ↓Fin_ret, pval, rd_S, rd_C, put_S, resV, resL, eq_self, mk, List.foldl_cons, List.foldl_nil, List.replicate_succ, List.replicate_zero, List.set_cons_zero, List.set_cons_succ, List.getElem?_cons_zero, List.getElem?_cons_succ, Option.getD_some, bin_mul, w64, if_true, Int.reduceNeg, Int.mul_one, Option.isSome_some]
        exact gc_val hp3 rfl
    · rw [decide_eq_false (fun h => hcn (hiff.1 h))] at hld
      simp (maxSteps := 4000000) -implicitDefEqProofs -dsimp (disch := omega) only [↓AW_skip, ↓AW_ops, ↓AW_cond, ↓AOps_nil, ↓AOps_pu, ↓AOps_ld, on_some, extK_app, condB_f, ↓then_normal, ↓inBlock_normal, pval, lval, rd_S, rd_C, put_S, eq_self, mk, List.foldl_cons, List.foldl_nil, List.replicate_succ, List.replicate_zero, List.set_cons_zero, List.set_cons_succ, List.getElem?_cons_zero, List.getElem?_cons_succ, Option.getD_some, List.length_cons, List.length_nil, Nat.reduceAdd, Nat.zero_add, bin_add, w64, true_and, Int.reduceNeg, idxB, hld]
      refine ⟨(c + 1, _), ⟨by simp only; omega, hp3, fun j hj => ?_⟩, by simp [Has, rd_s], rfl, by simp only; omega⟩
      by_cases hjc : j = c
      · rw [hjc]; exact hcn
      · exact hno j (by simp only at hj; omega)
  · have hlt' : ¬ (c : Int) ≤ 99 := by omega
    have hab : ¬ a = b := fun e => hno 0 (by omega) (by rw [e]; exact .refl _)
    have hbt : bt rs (nums rs) a b = none := bt_none hab (hno 99 (by omega))
    rw [hbt]
    simp (maxSteps := 4000000) -implicitDefEqProofs -dsimp (disch := omega) only [↓AW_ops, ↓AW_seq, ↓AW_cond, ↓AW_exit, ↓AW_ret, ↓AOps_nil, ↓AOps_pu, on_some, condB_f, ↓then_normal, ↓then_exit, ↓inBlock_exit, ↓Fin_ret, pval, rd_S, rd_C, put_S, resV, resL, eq_self, mk, List.foldl_cons, List.foldl_nil, List.replicate_succ, List.replicate_zero, List.set_cons_zero, List.set_cons_succ, List.getElem?_cons_zero, List.getElem?_cons_succ, Option.getD_some, bin_leq, if_true, decide_false, hlt', Option.isSome_none, Option.getD_none]
    exact gc_val hp rfl
end
end Go.Proofs.Ytkgfcdpckfhknaa

namespace Go.Proofs.Ytkgfcdpckfhknaa
open Go Go.Eng
/-- selion/selionlaw04.RoadRanges [] -/
def m3 : MFun := ⟨44, [2], [.mov (.s 4)],
 .seq (.ops [⟨(some 2), some (.junk), none, false, .pu (.bnew (.s 0))⟩,
   ⟨(some 4), some undefA, none, false, .pu (.mov (.c (.bool false)))⟩])
 (.seq (.seq (.ops [⟨(some 11), some undefA, none, false, .pu (.bget none 2 0 2 true)⟩,
   ⟨(some 12), some undefA, none, false, .call 17 [(.s 11)]⟩])
 (.cond (.s 12) (.seq (.ops [⟨(some 13), some undefA, none, false, .call 18 []⟩,
    ⟨(some 4), some undefA, none, false, .pu (.mov (.s 13))⟩])
  (.ret))
 (.skip)))
 (.seq (.ops [⟨(some 15), some undefA, none, false, .pu (.bget none 2 0 2 true)⟩,
   ⟨(some 16), some undefA, none, false, .pu (.mov (.s 1))⟩,
   ⟨(some 17), some undefA, none, false, .call 19 [(.s 15), (.s 16)]⟩,
   ⟨(some 14), some undefA, none, false, .pu (.mov (.s 17))⟩,
   ⟨(some 18), some undefA, none, false, .pu (.extr 0 (.s 14))⟩,
   ⟨(some 19), some undefA, none, false, .pu (.extr 1 (.s 14))⟩,
   ⟨(some 20), some undefA, none, false, .pu (.extr 2 (.s 14))⟩,
   ⟨(some 5), some undefA, none, false, .pu (.mov (.s 18))⟩,
   ⟨(some 6), some undefA, none, false, .pu (.mov (.s 19))⟩,
   ⟨(some 7), some undefA, none, false, .pu (.mov (.s 20))⟩])
 (.seq (.ops [⟨(some 22), some undefA, none, false, .pu (.bget none 2 0 2 true)⟩,
   ⟨(some 23), some undefA, none, false, .pu (.mov (.s 1))⟩,
   ⟨(some 24), some undefA, none, false, .call 20 [(.s 22), (.s 23)]⟩,
   ⟨(some 21), some undefA, none, false, .pu (.mov (.s 24))⟩,
   ⟨(some 25), some undefA, none, false, .pu (.extr 0 (.s 21))⟩,
   ⟨(some 26), some undefA, none, false, .pu (.extr 1 (.s 21))⟩,
   ⟨(some 27), some undefA, none, false, .pu (.extr 2 (.s 21))⟩,
   ⟨(some 8), some undefA, none, false, .pu (.mov (.s 25))⟩,
   ⟨(some 9), some undefA, none, false, .pu (.mov (.s 26))⟩,
   ⟨(some 10), some undefA, none, false, .pu (.mov (.s 27))⟩])
 (.seq (.ops [⟨(some 28), some undefA, none, false, .pu (.mov (.s 5))⟩,
   ⟨(some 29), some undefA, none, false, .pu (.mov (.s 8))⟩,
   ⟨(some 30), some undefA, none, false, .pu (.bin .eql (.s 28) (.s 29))⟩,
   ⟨(some 31), some undefA, none, false, .pu (.mov (.s 30))⟩,
   ⟨(some 32), some undefA, (some (31, true)), false, .pu (.mov (.s 6))⟩,
   ⟨(some 33), some undefA, (some (31, true)), false, .pu (.mov (.s 9))⟩,
   ⟨(some 34), some undefA, (some (31, true)), false, .pu (.eqb false (.s 32) (.s 33))⟩,
   ⟨(some 35), some undefA, none, false, .pu (.pick (.s 31) (.s 34) (.c (.bool false)))⟩,
   ⟨(some 36), some undefA, none, false, .pu (.mov (.s 35))⟩,
   ⟨(some 37), some undefA, (some (36, true)), false, .pu (.mov (.s 7))⟩,
   ⟨(some 38), some undefA, (some (36, true)), false, .pu (.mov (.s 10))⟩,
   ⟨(some 39), some undefA, (some (36, true)), false, .pu (.bin .eql (.s 37) (.s 38))⟩,
   ⟨(some 40), some undefA, none, false, .pu (.pick (.s 36) (.s 39) (.c (.bool false)))⟩,
   ⟨(some 41), some undefA, none, false, .pu (.mov (.s 40))⟩,
   ⟨(some 42), some undefA, (some (41, true)), false, .call 18 []⟩,
   ⟨(some 43), some undefA, none, false, .pu (.pick (.s 41) (.s 42) (.c (.bool false)))⟩,
   ⟨(some 4), some undefA, none, false, .pu (.mov (.s 43))⟩])
 (.ret)))))⟩
/-- selion/selionlaw04.RoadWorsts [] -/
def m9 : MFun := ⟨125, [2, 3], [.mov (.s 4)],
 .seq (.ops [⟨(some 2), some (.junk), none, false, .pu (.bnew (.s 0))⟩,
   ⟨(some 3), some (.junk), none, false, .pu (.bnew (.s 1))⟩,
   ⟨(some 4), some undefA, none, false, .pu (.mov (.c (.bool false)))⟩])
 (.seq (.seq (.ops [⟨(some 19), some undefA, none, false, .pu (.bget none 2 0 2 true)⟩,
   ⟨(some 20), some undefA, none, false, .call 17 [(.s 19)]⟩])
 (.cond (.s 20) (.seq (.ops [⟨(some 21), some undefA, none, false, .call 18 []⟩,
    ⟨(some 4), some undefA, none, false, .pu (.mov (.s 21))⟩])
  (.ret))
 (.skip)))
 (.seq (.ops [⟨(some 23), some undefA, none, false, .pu (.bget none 2 0 2 true)⟩,
   ⟨(some 24), some undefA, none, false, .pu (.badr none 3)⟩,
   ⟨(some 25), some undefA, none, false, .pu (.bget (some 24) 3 0 1 false)⟩,
   ⟨(some 26), some undefA, none, false, .pu (.badr none 3)⟩,
   ⟨(some 27), some undefA, none, false, .pu (.bget (some 26) 3 1 1 false)⟩,
   ⟨(some 28), some undefA, none, false, .call 25 [(.s 23), (.s 25), (.s 27)]⟩,
   ⟨(some 22), some undefA, none, false, .pu (.mov (.s 28))⟩,
   ⟨(some 29), some undefA, none, false, .pu (.extr 0 (.s 22))⟩,
   ⟨(some 30), some undefA, none, false, .pu (.extr 1 (.s 22))⟩,
   ⟨(some 31), some undefA, none, false, .pu (.extr 2 (.s 22))⟩,
   ⟨(some 5), some undefA, none, false, .pu (.mov (.s 29))⟩,
   ⟨(some 6), some undefA, none, false, .pu (.mov (.s 30))⟩,
   ⟨(some 7), some undefA, none, false, .pu (.mov (.s 31))⟩])
 (.seq (.ops [⟨(some 33), some undefA, none, false, .pu (.bget none 2 0 2 true)⟩,
   ⟨(some 34), some undefA, none, false, .pu (.badr none 3)⟩,
   ⟨(some 35), some undefA, none, false, .pu (.bget (some 34) 3 0 1 false)⟩,
   ⟨(some 36), some undefA, none, false, .pu (.badr none 3)⟩,
   ⟨(some 37), some undefA, none, false, .pu (.bget (some 36) 3 1 1 false)⟩,
   ⟨(some 38), some undefA, none, false, .call 35 [(.s 33), (.s 35), (.s 37)]⟩,
   ⟨(some 32), some undefA, none, false, .pu (.mov (.s 38))⟩,
   ⟨(some 39), some undefA, none, false, .pu (.extr 0 (.s 32))⟩,
   ⟨(some 40), some undefA, none, false, .pu (.extr 1 (.s 32))⟩,
   ⟨(some 41), some undefA, none, false, .pu (.extr 2 (.s 32))⟩,
   ⟨(some 8), some undefA, none, false, .pu (.mov (.s 39))⟩,
   ⟨(some 9), some undefA, none, false, .pu (.mov (.s 40))⟩,
   ⟨(some 10), some undefA, none, false, .pu (.mov (.s 41))⟩])
 (.seq (.ops [⟨(some 43), some undefA, none, false, .pu (.bget none 2 0 2 true)⟩,
   ⟨(some 44), some undefA, none, false, .pu (.badr none 3)⟩,
   ⟨(some 45), some undefA, none, false, .pu (.bget (some 44) 3 0 1 false)⟩,
   ⟨(some 46), some undefA, none, false, .pu (.badr none 3)⟩,
   ⟨(some 47), some undefA, none, false, .pu (.bget (some 46) 3 1 1 false)⟩,
   ⟨(some 48), some undefA, none, false, .call 36 [(.s 43), (.s 45), (.s 47)]⟩,
   ⟨(some 42), some undefA, none, false, .pu (.mov (.s 48))⟩,
   ⟨(some 49), some undefA, none, false, .pu (.extr 0 (.s 42))⟩,
   ⟨(some 50), some undefA, none, false, .pu (.extr 1 (.s 42))⟩,
   ⟨(some 51), some undefA, none, false, .pu (.extr 2 (.s 42))⟩,
   ⟨(some 11), some undefA, none, false, .pu (.mov (.s 49))⟩,
   ⟨(some 12), some undefA, none, false, .pu (.mov (.s 50))⟩,
   ⟨(some 13), some undefA, none, false, .pu (.mov (.s 51))⟩])
 (.seq (.seq (.ops [⟨(some 52), some undefA, none, false, .pu (.mov (.s 5))⟩,
   ⟨(some 53), some undefA, none, false, .pu (.mov (.s 8))⟩,
   ⟨(some 54), some undefA, none, false, .pu (.bin .neq (.s 52) (.s 53))⟩,
   ⟨(some 55), some undefA, none, false, .pu (.mov (.s 54))⟩,
   ⟨(some 56), some undefA, (some (55, false)), false, .pu (.mov (.s 6))⟩,
   ⟨(some 57), some undefA, (some (55, false)), false, .pu (.mov (.s 9))⟩,
   ⟨(some 58), some undefA, (some (55, false)), false, .pu (.eqb true (.s 56) (.s 57))⟩,
   ⟨(some 59), some undefA, none, false, .pu (.pick (.s 55) (.c (.bool true)) (.s 58))⟩,
   ⟨(some 60), some undefA, none, false, .pu (.mov (.s 59))⟩,
   ⟨(some 61), some undefA, (some (60, false)), false, .pu (.mov (.s 7))⟩,
   ⟨(some 62), some undefA, (some (60, false)), false, .pu (.mov (.s 10))⟩,
   ⟨(some 63), some undefA, (some (60, false)), false, .pu (.bin .neq (.s 61) (.s 62))⟩,
   ⟨(some 64), some undefA, none, false, .pu (.pick (.s 60) (.c (.bool true)) (.s 63))⟩,
   ⟨(some 65), some undefA, none, false, .pu (.mov (.s 64))⟩,
   ⟨(some 66), some undefA, (some (65, false)), false, .pu (.mov (.s 13))⟩,
   ⟨(some 67), some undefA, (some (65, false)), false, .pu (.mov (.s 10))⟩,
   ⟨(some 68), some undefA, (some (65, false)), false, .pu (.bin .neq (.s 66) (.s 67))⟩,
   ⟨(some 69), some undefA, none, false, .pu (.pick (.s 65) (.c (.bool true)) (.s 68))⟩,
   ⟨(some 70), some undefA, none, false, .pu (.mov (.s 69))⟩,
   ⟨(some 71), some undefA, (some (70, false)), false, .pu (.mov (.s 12))⟩,
   ⟨(some 72), some undefA, (some (70, false)), false, .pu (.mov (.s 9))⟩,
   ⟨(some 73), some undefA, (some (70, false)), false, .pu (.eqb true (.s 71) (.s 72))⟩,
   ⟨(some 74), some undefA, none, false, .pu (.pick (.s 70) (.c (.bool true)) (.s 73))⟩])
 (.cond (.s 74) (.seq (.ops [⟨(some 4), some undefA, none, false, .pu (.mov (.c (.bool false)))⟩])
  (.ret))
 (.skip)))
 (.seq (.seq (.ops [⟨(some 75), some undefA, none, false, .pu (.mov (.s 6))⟩,
   ⟨(some 76), some undefA, none, false, .pu (.not (.s 75))⟩])
 (.cond (.s 76) (.seq (.ops [⟨(some 77), some undefA, none, false, .pu (.mov (.s 11))⟩,
    ⟨(some 78), some undefA, none, false, .pu (.len (.s 77))⟩,
    ⟨(some 79), some undefA, none, false, .pu (.bin .eql (.s 78) (.c (.int .i64 0)))⟩,
    ⟨(some 80), some undefA, none, false, .pu (.mov (.s 79))⟩,
    ⟨(some 81), some undefA, (some (80, true)), false, .call 18 []⟩,
    ⟨(some 82), some undefA, none, false, .pu (.pick (.s 80) (.s 81) (.c (.bool false)))⟩,
    ⟨(some 4), some undefA, none, false, .pu (.mov (.s 82))⟩])
  (.ret))
 (.skip)))
 (.seq (.ops [⟨(some 84), some undefA, none, false, .pu (.bget none 2 0 2 true)⟩,
   ⟨(some 85), some undefA, none, false, .pu (.badr none 3)⟩,
   ⟨(some 86), some undefA, none, false, .pu (.bget (some 85) 3 0 1 false)⟩,
   ⟨(some 87), some undefA, none, false, .pu (.badr none 3)⟩,
   ⟨(some 88), some undefA, none, false, .pu (.bget (some 87) 3 1 1 false)⟩,
   ⟨(some 89), some undefA, none, false, .pu (.mov (.s 11))⟩,
   ⟨(some 90), some undefA, none, false, .call 31 [(.s 84), (.s 86), (.s 88), (.s 89)]⟩,
   ⟨(some 83), some undefA, none, false, .pu (.mov (.s 90))⟩,
   ⟨(some 91), some undefA, none, false, .pu (.extr 0 (.s 83))⟩,
   ⟨(some 92), some undefA, none, false, .pu (.extr 1 (.s 83))⟩,
   ⟨(some 14), some undefA, none, false, .pu (.mov (.s 91))⟩,
   ⟨(some 15), some undefA, none, false, .pu (.mov (.s 92))⟩])
 (.seq (.ops [⟨(some 94), some undefA, none, false, .pu (.bget none 2 0 2 true)⟩,
   ⟨(some 95), some undefA, none, false, .pu (.badr none 3)⟩,
   ⟨(some 96), some undefA, none, false, .pu (.bget (some 95) 3 1 1 false)⟩,
   ⟨(some 97), some undefA, none, false, .pu (.badr none 3)⟩,
   ⟨(some 98), some undefA, none, false, .pu (.bget (some 97) 3 0 1 false)⟩,
   ⟨(some 99), some undefA, none, false, .call 25 [(.s 94), (.s 96), (.s 98)]⟩,
   ⟨(some 93), some undefA, none, false, .pu (.mov (.s 99))⟩,
   ⟨(some 100), some undefA, none, false, .pu (.extr 0 (.s 93))⟩,
   ⟨(some 101), some undefA, none, false, .pu (.extr 1 (.s 93))⟩,
   ⟨(some 102), some undefA, none, false, .pu (.extr 2 (.s 93))⟩,
   ⟨(some 16), some undefA, none, false, .pu (.mov (.s 100))⟩,
   ⟨(some 17), some undefA, none, false, .pu (.mov (.s 101))⟩,
   ⟨(some 18), some undefA, none, false, .pu (.mov (.s 102))⟩])
 (.seq (.ops [⟨(some 103), some undefA, none, false, .pu (.mov (.s 15))⟩,
   ⟨(some 104), some undefA, none, false, .pu (.bin .eql (.s 103) (.c (.int .i64 0)))⟩,
   ⟨(some 105), some undefA, none, false, .pu (.mov (.s 104))⟩,
   ⟨(some 106), some undefA, (some (105, true)), false, .pu (.mov (.s 14))⟩,
   ⟨(some 107), some undefA, (some (105, true)), false, .pu (.mov (.s 5))⟩,
   ⟨(some 108), some undefA, (some (105, true)), false, .pu (.bin .eql (.s 106) (.s 107))⟩,
   ⟨(some 109), some undefA, none, false, .pu (.pick (.s 105) (.s 108) (.c (.bool false)))⟩,
   ⟨(some 110), some undefA, none, false, .pu (.mov (.s 109))⟩,
   ⟨(some 111), some undefA, (some (110, true)), false, .pu (.mov (.s 18))⟩,
   ⟨(some 112), some undefA, (some (110, true)), false, .pu (.bin .eql (.s 111) (.c (.int .i64 0)))⟩,
   ⟨(some 113), some undefA, none, false, .pu (.pick (.s 110) (.s 112) (.c (.bool false)))⟩,
   ⟨(some 114), some undefA, none, false, .pu (.mov (.s 113))⟩,
   ⟨(some 115), some undefA, (some (114, true)), false, .pu (.mov (.s 17))⟩,
   ⟨(some 116), some undefA, none, false, .pu (.pick (.s 114) (.s 115) (.c (.bool false)))⟩,
   ⟨(some 117), some undefA, none, false, .pu (.mov (.s 116))⟩,
   ⟨(some 118), some undefA, (some (117, true)), false, .pu (.mov (.s 16))⟩,
   ⟨(some 119), some undefA, (some (117, true)), false, .pu (.mov (.s 5))⟩,
   ⟨(some 120), some undefA, (some (117, true)), false, .pu (.bin .eql (.s 118) (.s 119))⟩,
   ⟨(some 121), some undefA, none, false, .pu (.pick (.s 117) (.s 120) (.c (.bool false)))⟩,
   ⟨(some 122), some undefA, none, false, .pu (.mov (.s 121))⟩,
   ⟨(some 123), some undefA, (some (122, true)), false, .call 18 []⟩,
   ⟨(some 124), some undefA, none, false, .pu (.pick (.s 122) (.s 123) (.c (.bool false)))⟩,
   ⟨(some 4), some undefA, none, false, .pu (.mov (.s 124))⟩])
 (.ret))))))))))⟩
theorem t9 : trF Try.prog [2, 3] [] Try.f9 = some m9 := by kernel_rfl
end Go.Proofs.Ytkgfcdpckfhknaa

namespace Go.Proofs.Ytkgfcdpckfhknaa
open Go Go.Eng
/-- One road on a way. -/
def stp (rs : List Rd) (p : Int × Int) (k : Int) : Option (Int × Int) :=
  if p.1 = (rdx rs k).1 then some ((rdx rs k).2.1, max p.2 (wct rs k)) else if p.1 = (rdx rs k).2.1 then some ((rdx rs k).1, max p.2 (wct rs k)) else none
/-- A way from a place: where it ends, and its worst. -/
def wk (rs : List Rd) (p : Int × Int) : List Int → Option (Int × Int)
  | [] => some p
  | k :: ks => match stp rs p k with
    | some q => wk rs q ks
    | none => none
theorem wk_append (rs : List Rd) : ∀ (xs ys : List Int) (p : Int × Int), wk rs p (xs ++ ys) = match wk rs p xs with | some q => wk rs q ys | none => none
  | [], ys, p => rfl
  | x :: xs, ys, p => by
    rw [List.cons_append, wk, wk]
    cases stp rs p x with
    | none => rfl
    | some q => exact wk_append rs xs ys q
theorem wk_snoc {rs : List Rd} {ks : List Int} {i : Nat} {k : Int} {p q : Int × Int} (hz : ks[i]? = some k) (h : wk rs p (ks.take i) = some q) : wk rs p (ks.take (i + 1)) = stp rs q k := by
  rw [List.take_add_one, hz, wk_append, h]
  show wk rs q [k] = _
  rw [wk]
  cases stp rs q k <;> rfl
theorem wk_none {rs : List Rd} {ks : List Int} {i : Nat} {p : Int × Int} (h : wk rs p (ks.take i) = none) : wk rs p ks = none := by
  have := wk_append rs (ks.take i) (ks.drop i) p
  rw [List.take_append_drop, h] at this
  exact this
theorem stp_cn {rs : List Rd} {p q : Int × Int} {k : Int} (h : stp rs p k = some q) : q.2 = max p.2 (wct rs k) ∧ (((rdx rs k).1 = p.1 ∧ (rdx rs k).2.1 = q.1) ∨ ((rdx rs k).1 = q.1 ∧ (rdx rs k).2.1 = p.1)) := by
  unfold stp at h
  split at h
  · rename_i e
    cases h
    exact ⟨rfl, .inl ⟨e.symm, rfl⟩⟩
  · split at h
    · rename_i e
      cases h
      exact ⟨rfl, .inr ⟨rfl, e.symm⟩⟩
    · cases h
theorem wk_cn {rs : List Rd} : ∀ {ks : List Int} {p q : Int × Int}, Nos rs ks → wk rs p ks = some q → p.2 ≤ q.2 ∧ cnT rs (nums rs) q.2 p.1 q.1
  | [], p, q, _, h => by
    cases h
    exact ⟨Int.le_refl _, .refl _⟩
  | k :: ks, p, q, hk, h => by
    rw [wk] at h
    cases hs : stp rs p k with
    | none => rw [hs] at h; cases h
    | some r =>
      rw [hs] at h
      obtain ⟨h1, h2⟩ := wk_cn (fun x hx => hk x (by simp [hx])) h
      obtain ⟨g1, g2⟩ := stp_cn hs
      have hkk := hk k (by simp)
      refine ⟨by omega, ?_⟩
      have hmem : rdx rs k ∈ (upTo (wct rs) (nums rs) q.2).map (rdx rs) := List.mem_map_of_mem (mem_upTo.2 ⟨mem_plc.2 (by omega), by omega⟩)
      have hone : Cn ((upTo (wct rs) (nums rs) q.2).map (rdx rs)) p.1 r.1 := by
        rcases g2 with ⟨e1, e2⟩ | ⟨e1, e2⟩
        · rw [← e1, ← e2]; exact Cn.one hmem
        · rw [← e1, ← e2]; exact (Cn.one hmem).symm
      exact hone.trans h2
section
variable {Q : Int} {rs : List Rd} {ks : List Int} {u v : AV} {A : AHeap} {a b : Int}
/-- The error of a way, and its worst. -/
def yE (Q : Int) (rs : List Rd) (a b : Int) (ks : List Int) : Int :=
  if pE Q rs a b = 0 then (if notOf rs.length ks = true then 4 else match wk rs (a, 0) ks with | some p => (if p.1 = b then 0 else 7) | none => 7) else pE Q rs a b
def yC (Q : Int) (rs : List Rd) (a b : Int) (ks : List Int) : Int := if yE Q rs a b ks = 0 then ((wk rs (a, 0) ks).getD (0, 0)).2 else 0
theorem yE_p (h : ¬ pE Q rs a b = 0) : yE Q rs a b ks = pE Q rs a b := by unfold yE; rw [if_neg h]
theorem yE_4 (h : pE Q rs a b = 0) (h2 : notOf rs.length ks = true) : yE Q rs a b ks = 4 := by unfold yE; rw [if_pos h, if_pos h2]
theorem yE_n (h : pE Q rs a b = 0) (h2 : ¬ notOf rs.length ks = true) (h3 : wk rs (a, 0) ks = none) : yE Q rs a b ks = 7 := by unfold yE; rw [if_pos h, if_neg h2, h3]
theorem yE_s (h : pE Q rs a b = 0) (h2 : ¬ notOf rs.length ks = true) {p : Int × Int} (h3 : wk rs (a, 0) ks = some p) : yE Q rs a b ks = if p.1 = b then 0 else 7 := by unfold yE; rw [if_pos h, if_neg h2, h3]
theorem yC_0 (h : ¬ yE Q rs a b ks = 0) : yC Q rs a b ks = 0 := by unfold yC; rw [if_neg h]
theorem yC_s (h : yE Q rs a b ks = 0) {p : Int × Int} (h3 : wk rs (a, 0) ks = some p) : yC Q rs a b ks = p.2 := by unfold yC; rw [if_pos h, h3]; rfl
theorem notOf_nos (h : ¬ notOf rs.length ks = true) : Nos rs ks := by
  intro k hk
  refine Classical.byContradiction (fun hn => h ?_)
  unfold notOf
  rw [List.any_eq_true]
  refine ⟨k, hk, ?_⟩
  rw [decide_eq_false (by omega)]
  rfl
theorem rs_some {k : Int} (h : ¬ notOf rs.length ks = true) {i : Nat} (hz : ks[i]? = some k) : rs[k.toNat]? = some (rdx rs k) ∧ (0 ≤ k ∧ k < (rs.length : Int)) := by
  have := notOf_nos h k (List.mem_of_getElem? hz)
  exact ⟨(rdx_at this.1 this.2).1, by omega⟩
/-- The error of a net and numbers of roads. -/
def nE (Q : Int) (rs : List Rd) (ks : List Int) : Int := if vE Q rs = 0 then (if notOf rs.length ks = true then 4 else 0) else vE Q rs
theorem s64 (hu : L3 A u rs) (hP : W Q) (hx : L1 A v ks) (hl : ks.length ≤ 1000000) : ACalls Try.prog 64 [.agg [I Q, u], v] A (I (nE Q rs ks)) A := by
  refine acalls hmix Try.func64 (by kernel_rfl) t64 2 rfl (by decide) ?_
  dsimp only [m64]
  simp (maxSteps := 4000000) -implicitDefEqProofs -dsimp (disch := omega) only [↓AW_ops, ↓AW_seq, ↓AOps_nil, ↓AOps_pu, ↓AOps_call, on_some, ↓then_normal, pval, rd_S, rd_C, put_S, chkd, bgot, AV.cells?, partA, eq_self, List.replicate_succ, List.replicate_zero, List.set_cons_zero, List.set_cons_succ, List.getElem?_cons_zero, List.getElem?_cons_succ, List.drop_zero, List.take_succ_cons, List.take_nil, Option.getD_some, map_c, map_n, List.length_cons, List.length_nil, Nat.reduceAdd, Nat.reduceSub, Nat.reduceLeDiff, Nat.reduceEqDiff, Nat.zero_add, List.cons_append, List.nil_append, if_true, if_false]
  refine CallK.of (s22 hu hP) ?_
  by_cases h0 : vE Q rs = 0
  case neg =>
    have : nE Q rs ks = vE Q rs := if_neg h0
    rw [this]
    simp (maxSteps := 4000000) -implicitDefEqProofs -dsimp (disch := omega) only [↓AW_ops, ↓AW_seq, ↓AW_cond, ↓AW_ret, ↓AOps_nil, ↓AOps_pu, on_some, extK_same, condB_t, ↓then_normal, ↓then_ret, ↓Fin_ret, pval, rd_S, rd_C, put_S, resV, resL, List.replicate_succ, List.replicate_zero, List.set_cons_zero, List.set_cons_succ, List.getElem?_cons_zero, List.getElem?_cons_succ, Option.getD_some, Nat.reduceSub, List.cons_append, List.nil_append, bin_neq, decide_true, not_false_eq_true, h0]
    exact gc_same rfl
  have hE : nE Q rs ks = if notOf rs.length ks = true then 4 else 0 := if_pos h0
  rw [hE]
  have hn := vE_0.1 h0
  have hl14 := hn.l
  simp (maxSteps := 4000000) -implicitDefEqProofs -dsimp (disch := omega) only [↓AW_skip, ↓AW_ops, ↓AW_seq, ↓AW_cond, ↓AW_block, ↓AOps_nil, ↓AOps_pu, on_some, extK_same, condB_f, ↓then_normal, pval, rd_S, rd_C, put_S, ↓AW_toLoop, eq_self, List.replicate_succ, List.replicate_zero, List.set_cons_zero, List.set_cons_succ, List.getElem?_cons_zero, List.getElem?_cons_succ, Option.getD_some, Nat.reduceSub, List.cons_append, List.nil_append, bin_neq, decide_false, not_true_eq_false, h0]
  refine LoopK.by 28 (fun i : Nat => i ≤ ks.length ∧ ∀ k ∈ ks.take i, 0 ≤ k ∧ k ≤ (rs.length : Int) - 1) (fun i => [(1, v), (2, .agg [I Q, u]), (6, I i)]) (fun _ => A) (fun i => ks.length - i) 0 ⟨by omega, by simp⟩ rfl (by simp [Has, rd_s]) rfl ?_
  rintro i ⟨hi, he⟩
  by_cases hlt : i < ks.length
  · obtain ⟨z, hz⟩ : ∃ z, ks[i]? = some z := ⟨_, List.getElem?_eq_getElem hlt⟩
    have hlt' : (i : Int) < ks.length := by omega
    simp (maxSteps := 4000000) -implicitDefEqProofs -dsimp (disch := omega) only [↓AW_skip, ↓AW_ops, ↓AW_seq, ↓AW_cond, ↓AW_block, ↓AOps_nil, ↓AOps_pu, ↓AOps_ld, ↓AOps_call, on_some, condB_t, ↓then_normal, pval, lval, rd_S, rd_C, put_S, chkd, isAdr, bgot, AV.cells?, partA, eq_self, mk, List.foldl_cons, List.foldl_nil, List.replicate_succ, List.replicate_zero, List.set_cons_zero, List.set_cons_succ, List.getElem?_cons_zero, List.getElem?_cons_succ, List.drop_zero, List.drop_succ_cons, List.take_succ_cons, List.take_nil, Option.getD_some, map_c, map_n, List.length_cons, List.length_nil, Nat.reduceAdd, Nat.reduceLeDiff, Nat.zero_add, bin_sub, bin_lss, w64, if_true, if_false, Bool.false_eq_true, decide_true, Go.Eng.e1, hlt', hx.len, hx.idx hlt, hx.ld0 hz 1 false (by decide), hu.len]
    refine CallK.of (c_wi _ _ _ _) ?_
    by_cases g : 0 ≤ z ∧ z ≤ (rs.length : Int) - 1
    · simp (maxSteps := 4000000) -implicitDefEqProofs -dsimp (disch := omega) only [↓AW_skip, ↓AW_ops, ↓AW_cond, ↓AOps_nil, ↓AOps_pu, on_some, extK_same, condB_f, ↓then_normal, ↓inBlock_normal, pval, rd_S, rd_C, put_S, eq_self, mk, List.foldl_cons, List.foldl_nil, List.replicate_succ, List.replicate_zero, List.set_cons_zero, List.set_cons_succ, List.getElem?_cons_zero, List.getElem?_cons_succ, Option.getD_some, List.length_cons, List.length_nil, Nat.reduceAdd, Nat.zero_add, bin_add, w64, Bool.not_true, decide_true, true_and, and_true, g]
      exact ⟨i + 1, ⟨hlt, all_take he hz g⟩, by simp [Has, rd_s], by omega⟩
    · have hno : notOf rs.length ks = true := by
        unfold notOf
        rw [List.any_eq_true]
        exact ⟨z, List.mem_of_getElem? hz, by rw [decide_eq_false g]; rfl⟩
      rw [if_pos hno]
      simp (maxSteps := 4000000) -implicitDefEqProofs -dsimp (disch := omega) only [↓AW_ops, ↓AW_seq, ↓AW_cond, ↓AW_ret, ↓AOps_nil, ↓AOps_pu, on_some, extK_same, condB_t, ↓then_normal, ↓then_ret, ↓inBlock_ret, ↓Fin_ret, pval, rd_S, rd_C, put_S, resV, resL, mk, List.foldl_cons, List.foldl_nil, List.replicate_succ, List.replicate_zero, List.set_cons_zero, List.set_cons_succ, List.getElem?_cons_zero, List.getElem?_cons_succ, Option.getD_some, Bool.not_false, decide_false, g]
      exact gc_same rfl
  · have hlt' : ¬ ((i : Int) < ks.length) := by omega
    rw [List.take_of_length_le (by omega)] at he
    have hno : ¬ notOf rs.length ks = true := fun h => by
      unfold notOf at h
      rw [List.any_eq_true] at h
      obtain ⟨k, hk, hh⟩ := h
      rw [decide_eq_true (he k hk)] at hh
      cases hh
    rw [if_neg hno]
    simp (maxSteps := 4000000) -implicitDefEqProofs -dsimp (disch := omega) only [↓AW_ops, ↓AW_seq, ↓AW_cond, ↓AW_exit, ↓AW_ret, ↓AOps_nil, ↓AOps_pu, on_some, condB_f, ↓then_normal, ↓then_exit, ↓inBlock_exit, ↓Fin_ret, pval, rd_S, rd_C, put_S, resV, resL, eq_self, mk, List.foldl_cons, List.foldl_nil, List.replicate_succ, List.replicate_zero, List.set_cons_zero, List.set_cons_succ, List.getElem?_cons_zero, List.getElem?_cons_succ, Option.getD_some, bin_lss, if_true, decide_false, hlt', hx.len]
    exact gc_same rfl
set_option maxHeartbeats 8000000 in
theorem s31 (hu : L3 A u rs) (hP : W Q) (hx : L1 A v ks) (hl : ks.length ≤ 1000000) (a b : Int) : ACalls Try.prog 31 [.agg [I Q, u], I a, I b, v] A (.tuple [I (yC Q rs a b ks), I (yE Q rs a b ks)]) A := by
  refine acalls hmix Try.func31 (by kernel_rfl) t31 4 rfl (by decide) ?_
  dsimp only [m31]
  simp (maxSteps := 4000000) -implicitDefEqProofs -dsimp (disch := omega) only [↓AW_ops, ↓AW_seq, ↓AOps_nil, ↓AOps_pu, ↓AOps_call, on_some, ↓then_normal, pval, rd_S, rd_C, put_S, chkd, bgot, AV.cells?, partA, eq_self, List.replicate_succ, List.replicate_zero, List.set_cons_zero, List.set_cons_succ, List.getElem?_cons_zero, List.getElem?_cons_succ, List.drop_zero, List.take_succ_cons, List.take_nil, Option.getD_some, map_c, map_n, List.length_cons, List.length_nil, Nat.reduceAdd, Nat.reduceSub, Nat.reduceLeDiff, Nat.reduceEqDiff, Nat.zero_add, List.cons_append, List.nil_append, if_true, if_false]
  refine CallK.of (s77 hu hP a b) ?_
  by_cases h0 : pE Q rs a b = 0
  case neg =>
    have e1 := yE_p (ks := ks) h0
    rw [yC_0 (by rw [e1]; exact h0), e1]
    simp (maxSteps := 4000000) -implicitDefEqProofs -dsimp (disch := omega) only [↓AW_ops, ↓AW_seq, ↓AW_cond, ↓AW_ret, ↓AOps_nil, ↓AOps_pu, on_some, extK_same, condB_t, ↓then_normal, ↓then_ret, ↓Fin_ret, pval, rd_S, rd_C, put_S, resV, resL, List.replicate_succ, List.replicate_zero, List.set_cons_zero, List.set_cons_succ, List.getElem?_cons_zero, List.getElem?_cons_succ, Option.getD_some, Nat.reduceSub, List.cons_append, List.nil_append, bin_neq, decide_true, not_false_eq_true, h0]
    exact gc_same rfl
  have hn := (pE_0.1 h0).1
  simp (maxSteps := 4000000) -implicitDefEqProofs -dsimp (disch := omega) only [↓AW_skip, ↓AW_ops, ↓AW_seq, ↓AW_cond, ↓AOps_nil, ↓AOps_pu, ↓AOps_call, on_some, extK_same, condB_f, ↓then_normal, pval, rd_S, rd_C, put_S, chkd, bgot, partA, eq_self, List.replicate_succ, List.replicate_zero, List.set_cons_zero, List.set_cons_succ, List.getElem?_cons_zero, List.getElem?_cons_succ, List.drop_zero, List.take_succ_cons, List.take_nil, Option.getD_some, map_c, map_n, List.length_cons, List.length_nil, Nat.reduceAdd, Nat.reduceSub, Nat.reduceLeDiff, Nat.reduceEqDiff, Nat.zero_add, List.cons_append, List.nil_append, bin_neq, if_true, if_false, decide_false, not_true_eq_false, h0]
  refine CallK.of (s64 hu hP hx hl) ?_
  have hnE : nE Q rs ks = if notOf rs.length ks = true then 4 else 0 := if_pos (vE_0.2 hn)
  rw [hnE]
  by_cases h1 : notOf rs.length ks = true
  · have e1 := yE_4 (a := a) (b := b) h0 h1
    rw [if_pos h1, yC_0 (by rw [e1]; decide), e1]
    simp (maxSteps := 4000000) -implicitDefEqProofs -dsimp (disch := omega) only [↓AW_ops, ↓AW_seq, ↓AW_cond, ↓AW_ret, ↓AOps_nil, ↓AOps_pu, on_some, extK_same, condB_t, ↓then_normal, ↓then_ret, ↓Fin_ret, pval, rd_S, rd_C, put_S, resV, resL, List.replicate_succ, List.replicate_zero, List.set_cons_zero, List.set_cons_succ, List.getElem?_cons_zero, List.getElem?_cons_succ, Option.getD_some, Nat.reduceSub, List.cons_append, List.nil_append, bin_neq, decide_true, not_false_eq_true, Int.reduceEq]
    exact gc_same rfl
  rw [if_neg h1]
  simp (maxSteps := 4000000) -implicitDefEqProofs -dsimp (disch := omega) only [↓AW_skip, ↓AW_ops, ↓AW_seq, ↓AW_cond, ↓AW_block, ↓AOps_nil, ↓AOps_pu, on_some, extK_same, condB_f, ↓then_normal, pval, rd_S, rd_C, put_S, ↓AW_toLoop, eq_self, List.replicate_succ, List.replicate_zero, List.set_cons_zero, List.set_cons_succ, List.getElem?_cons_zero, List.getElem?_cons_succ, Option.getD_some, Nat.reduceSub, List.cons_append, List.nil_append, bin_neq, decide_false, not_true_eq_false]
  refine LoopK.by 64 (fun x : Nat × Int × Int => x.1 ≤ ks.length ∧ wk rs (a, 0) (ks.take x.1) = some x.2) (fun x => [(2, I b), (3, v), (4, .agg [I Q, u]), (11, I x.2.1), (12, I x.2.2), (13, I x.1)]) (fun _ => A) (fun x => ks.length - x.1) (0, a, 0) ⟨by simp only; omega, rfl⟩ rfl (by simp [Has, rd_s]) rfl ?_
  rintro ⟨i, at', w⟩ ⟨hi, hw⟩
  simp only at hi hw
  by_cases hlt : i < ks.length
  · obtain ⟨k, hz⟩ : ∃ z, ks[i]? = some z := ⟨_, List.getElem?_eq_getElem hlt⟩
    have hlt' : (i : Int) < ks.length := by omega
    obtain ⟨hr, k0, k1⟩ := rs_some h1 hz
    have hri := hu.idxI (k := .i64) k0 k1
    have hsn := wk_snoc hz hw
    have hwe : (rdx rs k).2.2 = wct rs k := rfl
    by_cases ha : at' = (rdx rs k).1
    · have hst : stp rs (at', w) k = some ((rdx rs k).2.1, max w (wct rs k)) := by unfold stp; rw [if_pos ha]
      rw [hst] at hsn
      subst ha
      simp (maxSteps := 4000000) -implicitDefEqProofs -dsimp (disch := omega) only [↓AW_skip, ↓AW_ops, ↓AW_seq, ↓AW_cond, ↓AW_block, ↓AOps_nil, ↓AOps_pu, ↓AOps_ld, on_some, condB_t, ↓then_normal, ↓inBlock_normal, pval, lval, rd_S, rd_C, put_S, chkd, isAdr, bput, bgot, AV.cells?, splice, partA, eq_self, mk, List.foldl_cons, List.foldl_nil, List.replicate_succ, List.replicate_zero, List.set_cons_zero, List.set_cons_succ, List.getElem?_cons_zero, List.getElem?_cons_succ, List.drop_zero, List.drop_succ_cons, List.drop_nil, List.take_zero, List.take_succ_cons, List.take_nil, Option.getD_some, map_c, map_n, List.length_cons, List.length_nil, Nat.reduceAdd, Nat.reduceLeDiff, Nat.reduceEqDiff, Nat.zero_add, List.nil_append, List.append_nil, bin_add, bin_eql, bin_lss, mm_max, w64, if_true, if_false, Bool.false_eq_true, decide_true, Go.Eng.e1, true_and, ne_eq, not_true_eq_false, hlt', hx.len, hx.idx hlt, hx.ld0 hz 1 false (by decide), hri, hu.ld0 hr 3 true (by decide), e3, hwe]
      exact ⟨(i + 1, _), ⟨hlt, hsn⟩, by simp [Has, rd_s], by simp only; omega⟩
    · by_cases hb : at' = (rdx rs k).2.1
      · have hst : stp rs (at', w) k = some ((rdx rs k).1, max w (wct rs k)) := by unfold stp; rw [if_neg ha, if_pos hb]
        rw [hst] at hsn
        subst hb
        simp (maxSteps := 4000000) -implicitDefEqProofs -dsimp (disch := omega) only [↓AW_skip, ↓AW_ops, ↓AW_seq, ↓AW_cond, ↓AW_block, ↓AOps_nil, ↓AOps_pu, ↓AOps_ld, on_some, condB_t, condB_f, ↓then_normal, ↓inBlock_normal, pval, lval, rd_S, rd_C, put_S, chkd, isAdr, bput, bgot, AV.cells?, splice, partA, eq_self, mk, List.foldl_cons, List.foldl_nil, List.replicate_succ, List.replicate_zero, List.set_cons_zero, List.set_cons_succ, List.getElem?_cons_zero, List.getElem?_cons_succ, List.drop_zero, List.drop_succ_cons, List.drop_nil, List.take_zero, List.take_succ_cons, List.take_nil, Option.getD_some, map_c, map_n, List.length_cons, List.length_nil, Nat.reduceAdd, Nat.reduceLeDiff, Nat.reduceEqDiff, Nat.zero_add, List.nil_append, List.append_nil, bin_add, bin_eql, bin_lss, mm_max, w64, if_true, if_false, Bool.false_eq_true, decide_true, decide_false, Go.Eng.e1, true_and, ne_eq, not_true_eq_false, hlt', hx.len, hx.idx hlt, hx.ld0 hz 1 false (by decide), hri, hu.ld0 hr 3 true (by decide), e3, hwe, ha]
        exact ⟨(i + 1, _), ⟨hlt, hsn⟩, by simp [Has, rd_s], by simp only; omega⟩
      · have hst : stp rs (at', w) k = none := by unfold stp; rw [if_neg ha, if_neg hb]
        rw [hst] at hsn
        have e1 := yE_n (b := b) h0 h1 (wk_none hsn)
        rw [yC_0 (by rw [e1]; decide), e1]
        simp (maxSteps := 4000000) -implicitDefEqProofs -dsimp (disch := omega) only [↓AW_skip, ↓AW_ops, ↓AW_seq, ↓AW_cond, ↓AW_block, ↓AW_ret, ↓AOps_nil, ↓AOps_pu, ↓AOps_ld, on_some, condB_t, condB_f, ↓then_normal, ↓then_ret, ↓inBlock_ret, ↓Fin_ret, pval, lval, rd_S, rd_C, put_S, resV, resL, chkd, isAdr, bput, bgot, AV.cells?, splice, partA, eq_self, mk, List.foldl_cons, List.foldl_nil, List.replicate_succ, List.replicate_zero, List.set_cons_zero, List.set_cons_succ, List.getElem?_cons_zero, List.getElem?_cons_succ, List.drop_zero, List.drop_succ_cons, List.drop_nil, List.take_zero, List.take_succ_cons, List.take_nil, Option.getD_some, List.length_cons, List.length_nil, Nat.reduceAdd, Nat.reduceLeDiff, Nat.reduceEqDiff, Nat.zero_add, List.nil_append, List.append_nil, bin_eql, bin_lss, if_true, if_false, Bool.false_eq_true, decide_true, decide_false, Go.Eng.e1, ne_eq, not_true_eq_false, hlt', hx.len, hx.idx hlt, hx.ld0 hz 1 false (by decide), hri, hu.ld0 hr 3 true (by decide), e3, hwe, ha, hb]
        exact gc_same rfl
  · have hlt' : ¬ ((i : Int) < ks.length) := by omega
    rw [List.take_of_length_le (by omega)] at hw
    have e1 := yE_s h0 h1 hw
    by_cases hb : at' = b
    · rw [if_pos hb] at e1
      rw [yC_s e1 hw, e1]
      subst hb
      simp (maxSteps := 4000000) -implicitDefEqProofs -dsimp (disch := omega) only [↓AW_skip, ↓AW_ops, ↓AW_seq, ↓AW_cond, ↓AW_exit, ↓AW_ret, ↓AOps_nil, ↓AOps_pu, on_some, condB_f, ↓then_normal, ↓then_exit, ↓inBlock_exit, ↓Fin_ret, pval, rd_S, rd_C, put_S, resV, resL, eq_self, mk, List.foldl_cons, List.foldl_nil, List.replicate_succ, List.replicate_zero, List.set_cons_zero, List.set_cons_succ, List.getElem?_cons_zero, List.getElem?_cons_succ, Option.getD_some, bin_neq, bin_lss, if_true, decide_false, not_true_eq_false, hlt', hx.len]
      exact gc_same rfl
    · rw [if_neg hb] at e1
      rw [yC_0 (by rw [e1]; decide), e1]
      simp (maxSteps := 4000000) -implicitDefEqProofs -dsimp (disch := omega) only [↓AW_ops, ↓AW_seq, ↓AW_cond, ↓AW_exit, ↓AW_ret, ↓AOps_nil, ↓AOps_pu, on_some, condB_t, condB_f, ↓then_normal, ↓then_exit, ↓then_ret, ↓inBlock_exit, ↓Fin_ret, pval, rd_S, rd_C, put_S, resV, resL, eq_self, mk, List.foldl_cons, List.foldl_nil, List.replicate_succ, List.replicate_zero, List.set_cons_zero, List.set_cons_succ, List.getElem?_cons_zero, List.getElem?_cons_succ, Option.getD_some, bin_neq, bin_lss, if_true, decide_true, decide_false, not_false_eq_true, hlt', hx.len, hb]
      exact gc_same rfl
/-- None is better than the smallest worst. -/
theorem way_worst (h : yE Q rs a b ks = 0) : pE Q rs a b = 0 ∧ wB Q rs a b = true ∧ wC Q rs a b ≤ yC Q rs a b ks := by
  have h0 : pE Q rs a b = 0 := Classical.byContradiction (fun hn => by rw [yE_p hn] at h; exact hn h)
  have h1 : ¬ notOf rs.length ks = true := fun hn => by rw [yE_4 h0 hn] at h; cases h
  cases hw : wk rs (a, 0) ks with
  | none => rw [yE_n h0 h1 hw] at h; cases h
  | some p =>
    have e1 := yE_s h0 h1 hw
    have hb : p.1 = b := Classical.byContradiction (fun hn => by rw [if_neg hn] at e1; rw [e1] at h; cases h)
    obtain ⟨g1, g2⟩ := wk_cn (notOf_nos h1) hw
    simp only at g1 g2
    rw [hb] at g2
    obtain ⟨hn, _, _⟩ := pE_0.1 h0
    have eC := yC_s h hw
    rw [eC]
    have e2 : wC Q rs a b = (bt rs (nums rs) a b).getD 0 := if_pos h0
    have e3 : wB Q rs a b = (bt rs (nums rs) a b).isSome := by unfold wB; rw [decide_eq_true h0, Bool.true_and]
    rw [e2, e3]
    refine ⟨h0, ?_⟩
    cases hbt : bt rs (nums rs) a b with
    | none =>
      have := (bt_none' (fun k hk => (hn.wb (mem_plc.1 hk).1 (by have := (mem_plc.1 hk).2; omega)).2) hbt).2 p.2
      exact absurd g2 this
    | some c =>
      refine ⟨rfl, ?_⟩
      show c ≤ p.2
      rcases bt_spec hbt with ⟨_, hc⟩ | ⟨_, _, _, hmin⟩
      · omega
      · exact hmin _ g2 g1
end
end Go.Proofs.Ytkgfcdpckfhknaa

namespace Go.Proofs.Ytkgfcdpckfhknaa
open Go Go.Eng
section
variable {Q : Int} {rs : List Rd} {ks : List Int} {u v : AV} {A : AHeap} {a b : Int}
/-- A road crosses a set's border, and costs no more. -/
def xR (ks : List Int) (c : Int) (r : Rd) : Prop := ¬ (decide (r.1 ∈ ks) = decide (r.2.1 ∈ ks)) ∧ r.2.2 ≤ c
instance xRdec (ks : List Int) (c : Int) (r : Rd) : Decidable (xR ks c r) := by unfold xR; infer_instance
end
end Go.Proofs.Ytkgfcdpckfhknaa

namespace Go.Proofs.Ytkgfcdpckfhknaa
open Go Go.Eng
section
variable {P : Nat} {rs : List Rd} {ks : List Int} {u v : AV} {A : AHeap}
end
end Go.Proofs.Ytkgfcdpckfhknaa

namespace Go.Proofs.Ytkgfcdpckfhknaa
open Go Go.Eng
/-- A map from places to pairs of numbers. -/
def mG (ks : List Int) (g : Int → Int × Int) : List (AV × AV) := mpl ks (fun q => .agg [I (g q).1, I (g q).2])
def updG (g : Int → Int × Int) (k : Int) (x : Int × Int) : Int → Int × Int := fun p => if p = k then x else g p
theorem lkG {H : AHeap} {n : Nat} {ks : List Int} {g : Int → Int × Int} (h : H[n]? = some (.mp (mG ks g))) (q : Int) : (q ∈ ks → lkA (.agg [I 0, I 0]) true (.mp n) (I q) H = some (.tuple [.agg [I (g q).1, I (g q).2], .bool true])) ∧ (q ∉ ks → lkA (.agg [I 0, I 0]) true (.mp n) (I q) H = some (.tuple [.agg [I 0, I 0], .bool false])) := by
  have := lk_ok h rfl (.agg [I 0, I 0]) q
  constructor
  · intro hq
    rw [if_pos hq, decide_eq_true hq] at this
    exact this
  · intro hq
    rw [if_neg hq, decide_eq_false hq] at this
    exact this
theorem lkG1 {H : AHeap} {n : Nat} {ks : List Int} {g : Int → Int × Int} (h : H[n]? = some (.mp (mG ks g))) {q : Int} (hq : q ∈ ks) : lkA (.agg [I 0, I 0]) false (.mp n) (I q) H = some (.agg [I (g q).1, I (g q).2]) := lk_at h rfl _ _ hq
theorem msG {H : AHeap} {n : Nat} {ks : List Int} {g : Int → Int × Int} (h : H[n]? = some (.mp (mG ks g))) {q : Int} (hq : q ∉ ks) (x y : Int) : msA (.mp n) (I q) (.agg [I x, I y]) H = some (H.set n (.mp (mG (ks ++ [q]) (updG g q (x, y))))) := by
  refine ms_at h ?_
  have hs := setK_new (x := .agg [I x, I y]) (f := fun q => .agg [I (g q).1, I (g q).2]) hq
  have e : mpl ks (fun q => AV.agg [I (g q).1, I (g q).2]) ++ [(I q, .agg [I x, I y])] = mG (ks ++ [q]) (updG g q (x, y)) := by
    unfold mG mpl
    rw [List.map_append]
    congr 1
    · refine List.map_congr_left (fun k hk => ?_)
      show (I k, AV.agg [I (g k).1, I (g k).2]) = (I k, AV.agg [I (if k = q then (x, y) else g k).1, I (if k = q then (x, y) else g k).2])
      rw [if_neg (fun e : k = q => hq (by rw [← e]; exact hk))]
    · show _ = [(I q, AV.agg [I (updG g q (x, y) q).1, I (updG g q (x, y) q).2])]
      unfold updG
      rw [if_pos rfl]
  rw [e] at hs
  exact hs
/-- A list that the call has made and that stands apart from an object. -/
structure QS (A H : AHeap) (m : Nat) (y : AV) (qs : List Int) : Prop where
  q : ∃ n full pre post, y = .sl 1 n pre.length qs.length full ∧ H[n]? = some (.cells true (pre ++ qs.flatMap e1 ++ post)) ∧ n ≠ m ∧ A.length ≤ n ∧ (full = true → post = [])
theorem QS.ls {A H : AHeap} {m : Nat} {y : AV} {qs : List Int} (h : QS A H m y qs) : L1 H y qs := by
  obtain ⟨n, full, pre, post, rfl, h1, _, _, _⟩ := h.q
  refine ⟨e1_len, ?_⟩
  have hl := flatMap_length e1_len qs
  simp only [slCells, cellsAt, h1, if_true]
  rw [if_pos (by simp only [List.length_append]; omega)]
  simp only [Option.map_some, Option.some.injEq, Prod.mk.injEq, true_and]
  rw [List.append_assoc, List.drop_left, ← hl, List.take_left]
theorem QS.pop {A H : AHeap} {m : Nat} {y : AV} {q : Int} {qs : List Int} (h : QS A H m y (q :: qs)) : ∃ y', slcA 1 y (some (I 1)) none none = some y' ∧ QS A H m y' qs := by
  obtain ⟨n, full, pre, post, rfl, h1, h2, h3, h4⟩ := h.q
  refine ⟨.sl 1 n (pre.length + 1) qs.length full, ?_, ⟨n, full, pre ++ [I q], post, by simp, ?_, h2, h3, h4⟩⟩
  · have : (1 : Int) ≤ (qs.length : Int) + 1 := by omega
    simp [slcA, bnd, this]
  · rw [h1]
    simp [e1]
theorem QS.push {A H : AHeap} {m : Nat} {y : AV} {qs : List Int} (h : QS A H m y qs) (hp : A <+: H) (hl : qs.length + 1 ≤ lim) (hm : m < H.length) (q : Int) : ∃ y' H2, appA 1 (H ++ [.cells true [I q]]) y (.sl 1 H.length 0 1 true) = some (y', H2) ∧ QS A H2 m y' (qs ++ [q]) ∧ (∀ o, H[m]? = some o → H2[m]? = some o) ∧ A <+: H2 := by
  obtain ⟨n, full, pre, post, rfl, h1, h2, h3, h4⟩ := h.q
  have hn := (List.getElem?_eq_some_iff.1 h1).1
  have hfl := flatMap_length e1_len qs
  have hc := slCells_new (es := 1) H [I q] rfl
  have hg : (H ++ [AObj.cells true [I q]])[n]? = some (.cells true (pre ++ qs.flatMap e1 ++ post)) := by rw [List.getElem?_append_left hn]; exact h1
  have hnew : ((pre ++ qs.flatMap e1 ++ post).drop pre.length).take (qs.length * 1) ++ [I q] = (qs ++ [q]).flatMap e1 := by
    rw [List.append_assoc, List.drop_left, ← hfl, List.take_left, List.flatMap_append]
    rfl
  have hlen : (qs ++ [q]).length = qs.length + 1 := by simp
  unfold appA
  rw [hc]
  simp only [Nat.one_ne_zero, if_false, hl, and_self, if_true, hg]
  rw [if_pos (by simp only [List.length_append]; omega), hnew]
  cases full with
  | true =>
    simp only [if_true]
    refine ⟨_, _, rfl, ⟨_, false, [], [], by rw [hlen]; rfl, by simp, ?_, ?_, by simp⟩, ?_, ?_⟩
    · intro e
      simp only [List.length_append] at e
      omega
    · simp only [List.length_append]; have := hp.length_le; omega
    · intro o ho
      have := (List.getElem?_eq_some_iff.1 ho).1
      rw [List.getElem?_append_left (by simp only [List.length_append]; omega), List.getElem?_append_left this]
      exact ho
    · exact (hp.trans (pre_app _ _)).trans (pre_app _ _)
  | false =>
    simp only [Bool.false_eq_true, if_false]
    refine ⟨_, _, rfl, ⟨_, false, [], [], by rw [hlen]; rfl, by simp, ?_, ?_, by simp⟩, ?_, ?_⟩
    · intro e
      simp only [List.length_append] at e
      omega
    · simp only [List.length_append]; have := hp.length_le; omega
    · intro o ho
      have := (List.getElem?_eq_some_iff.1 ho).1
      rw [List.getElem?_append_left (by simp only [List.length_set, List.length_append]; omega), List.getElem?_set, if_neg h2, List.getElem?_append_left this]
      exact ho
    · exact (pre_set (hp.trans (pre_app _ _)) h3 _).trans (pre_app _ _)
/-- A road up to a cost that joins two places. -/
def jn (rs : List Rd) (c k p q : Int) : Prop := (0 ≤ k ∧ k ≤ (rs.length : Int) - 1) ∧ wct rs k ≤ c ∧ (((rdx rs k).1 = p ∧ (rdx rs k).2.1 = q) ∨ ((rdx rs k).1 = q ∧ (rdx rs k).2.1 = p))
/-- The places in the order in which they were reached. -/
inductive BT (rs : List Rd) (c a : Int) : List Int → (Int → Int × Int) → Prop
  | base {g : Int → Int × Int} : BT rs c a [a] g
  | step {ks : List Int} {g : Int → Int × Int} {k p q : Int} : BT rs c a ks g → q ∉ ks → p ∈ ks → jn rs c k p q → BT rs c a (ks ++ [q]) (updG g q (k, p))
theorem jn_mem {rs : List Rd} {c k p q : Int} (h : jn rs c k p q) : ∃ e, e ∈ (upTo (wct rs) (nums rs) c).map (rdx rs) ∧ ((e.1 = p ∧ e.2.1 = q) ∨ (e.1 = q ∧ e.2.1 = p)) :=
  ⟨rdx rs k, List.mem_map_of_mem (mem_upTo.2 ⟨mem_plc.2 (by have := h.1; omega), h.2.1⟩), h.2.2⟩
theorem BT.mem {rs : List Rd} {c a : Int} {ks : List Int} {g : Int → Int × Int} (h : BT rs c a ks g) : a ∈ ks := by
  induction h with
  | base => simp
  | step _ _ _ _ ih => exact List.mem_append_left _ ih
theorem BT.nodup {rs : List Rd} {c a : Int} {ks : List Int} {g : Int → Int × Int} (h : BT rs c a ks g) : ks.Nodup := by
  induction h with
  | base => simp
  | step _ hq _ _ ih => exact List.nodup_append.2 ⟨ih, by simp, fun x hx y hy e => hq (by rw [List.mem_singleton] at hy; rw [← hy, ← e]; exact hx)⟩
theorem BT.cn {rs : List Rd} {c a : Int} {ks : List Int} {g : Int → Int × Int} (h : BT rs c a ks g) : ∀ p ∈ ks, cnT rs (nums rs) c a p := by
  induction h with
  | base => intro p hp; rw [List.mem_singleton] at hp; rw [hp]; exact .refl _
  | step _ hq hp hj ih =>
    intro x hx
    rcases List.mem_append.1 hx with h1 | h1
    · exact ih x h1
    · rw [List.mem_singleton] at h1
      rw [h1]
      obtain ⟨e, he, hr⟩ := jn_mem hj
      exact .step (ih _ hp) e he hr
theorem BT.inP {P : Nat} {rs : List Rd} {c a : Int} {ks : List Int} {g : Int → Int × Int} (h : BT rs c a ks g) (hn : Net P rs) (ha : 0 ≤ a ∧ a < P) : ∀ p ∈ ks, 0 ≤ p ∧ p < P := by
  induction h with
  | base => intro p hp; rw [List.mem_singleton] at hp; rw [hp]; exact ha
  | step _ hq hp hj ih =>
    intro x hx
    rcases List.mem_append.1 hx with h1 | h1
    · exact ih x h1
    · rw [List.mem_singleton] at h1
      rw [h1]
      obtain ⟨⟨k0, k1⟩, _, hr⟩ := hj
      obtain ⟨ha1, hb1⟩ := hn.inP k0 k1
      rcases hr with ⟨_, e2⟩ | ⟨e1, _⟩
      · rw [← e2]; exact hb1
      · rw [← e1]; exact ha1
/-- Each place but the first was reached from an earlier one. -/
theorem BT.rank {rs : List Rd} {c a : Int} {ks : List Int} {g : Int → Int × Int} (h : BT rs c a ks g) : ∃ r : Int → Nat, ∀ q ∈ ks, r q < ks.length ∧ (¬ q = a → (g q).2 ∈ ks ∧ r (g q).2 < r q ∧ jn rs c (g q).1 (g q).2 q) := by
  induction h with
  | base => exact ⟨fun _ => 0, fun q hq => ⟨by simp, fun hn => absurd (List.mem_singleton.1 hq) hn⟩⟩
  | @step ks g k p q hb hq hp hj ih =>
    obtain ⟨r, hr⟩ := ih
    refine ⟨fun x => if x = q then ks.length else r x, fun x hx => ?_⟩
    by_cases hxq : x = q
    · subst hxq
      refine ⟨by simp, fun _ => ?_⟩
      have hpx : ¬ p = x := fun e => hq (by rw [← e]; exact hp)
      simp only [updG, if_true, hpx, if_false]
      exact ⟨List.mem_append_left _ hp, (hr p hp).1, hj⟩
    · have hxk : x ∈ ks := by
        rcases List.mem_append.1 hx with h1 | h1
        · exact h1
        · exact absurd (List.mem_singleton.1 h1) hxq
      obtain ⟨h1, h2⟩ := hr x hxk
      simp only [updG, hxq, if_false]
      refine ⟨by simp; omega, fun hn => ?_⟩
      obtain ⟨h3, h4, h5⟩ := h2 hn
      have hgq : ¬ (g x).2 = q := fun e => hq (by rw [← e]; exact h3)
      simp only [hgq, if_false]
      exact ⟨List.mem_append_left _ h3, h4, h5⟩
/-- All cheap roads from a place lead to places of a list. -/
def clo (rs : List Rd) (c : Int) (ks : List Int) (p : Int) : Prop := ∀ k q, jn rs c k p q → q ∈ ks
theorem clo_all {rs : List Rd} {c a : Int} {ks : List Int} (ha : a ∈ ks) (h : ∀ p ∈ ks, clo rs c ks p) {p : Int} (hc : cnT rs (nums rs) c a p) : p ∈ ks := by
  unfold cnT at hc
  induction hc with
  | refl => exact ha
  | step _ e he hr ih =>
    obtain ⟨k, hk, rfl⟩ := List.mem_map.1 he
    rw [mem_upTo, mem_plc] at hk
    exact h _ ih k _ ⟨⟨hk.1.1, by omega⟩, hk.2, hr⟩
theorem l1_at0 {A : AHeap} {v : AV} {x : Int} {xs : List Int} (h : L1 A v (x :: xs)) : idxA 1 v (.int .i64 0) = some (.ptr (nm v) (of v)) ∧ ldA 1 false (.ptr (nm v) (of v)) A = some (I x) := by
  have h1 := h.idx (k := .i64) (i := 0) (by simp)
  have h2 := h.ld0 (i := 0) (x := x) rfl 1 false (by decide)
  constructor
  · simpa using h1
  · simpa [Go.Eng.e1, partA] using h2
section
variable {P : Nat} {rs : List Rd} {u v : AV} {A : AHeap} {a c : Int}
structure BF (rs : List Rd) (P : Nat) (A : AHeap) (a c : Int) (ks : List Int) (g : Int → Int × Int) (qs : List Int) (y : AV) (H : AHeap) : Prop where
  pre : A <+: H
  mp : H[A.length]? = some (.mp (mG ks g))
  q : QS A H A.length y qs
  bt : BT rs c a ks g
  sub : ∀ p ∈ qs, p ∈ ks
  cl : ∀ p ∈ ks, p ∉ qs → clo rs c ks p
  len : qs.length ≤ ks.length
theorem BF.le {ks qs : List Int} {g : Int → Int × Int} {y : AV} {H : AHeap} (hb : BF rs P A a c ks g qs y H) (hn : Net P rs) (ha : 0 ≤ a ∧ a < P) : ks.length ≤ P := by
  have := nodup_len_le hb.bt.nodup (ys := plc P) (fun x hx => mem_plc.2 (hb.bt.inP hn ha x hx))
  rw [plc_len] at this
  exact this
theorem BF.push {ks qs : List Int} {g : Int → Int × Int} {y : AV} {H : AHeap} {k p q : Int} (hb : BF rs P A a c ks g qs y H) (hn : Net P rs) (ha : 0 ≤ a ∧ a < P) (hq : q ∉ ks) (hp : p ∈ ks) (hj : jn rs c k p q) :
    ∃ y' H2, appA 1 (H.set A.length (.mp (mG (ks ++ [q]) (updG g q (k, p)))) ++ [.cells true [I q]]) y (.sl 1 (H.set A.length (.mp (mG (ks ++ [q]) (updG g q (k, p))))).length 0 1 true) = some (y', H2) ∧ BF rs P A a c (ks ++ [q]) (updG g q (k, p)) (qs ++ [q]) y' H2 := by
  have hle := hb.le hn ha
  have hp7 := hn.p7
  have hAl : A.length < H.length := (List.getElem?_eq_some_iff.1 hb.mp).1
  have hp1 : A <+: H.set A.length (.mp (mG (ks ++ [q]) (updG g q (k, p)))) := pre_set hb.pre (Nat.le_refl _) _
  have hm1 : (H.set A.length (.mp (mG (ks ++ [q]) (updG g q (k, p)))))[A.length]? = some (.mp (mG (ks ++ [q]) (updG g q (k, p)))) := List.getElem?_set_self hAl
  have hq1 : QS A (H.set A.length (.mp (mG (ks ++ [q]) (updG g q (k, p))))) A.length y qs := by
    obtain ⟨n, full, pre, post, h0, h1, h2, h3, h4⟩ := hb.q.q
    exact ⟨n, full, pre, post, h0, by rw [List.getElem?_set_ne (Ne.symm h2)]; exact h1, h2, h3, h4⟩
  obtain ⟨y', H2, happ, hq2, hkeep, hp2⟩ := hq1.push hp1 (by have := hb.len; simp only [lim]; omega) (by rw [List.length_set]; exact hAl) q
  refine ⟨y', H2, happ, ⟨hp2, hkeep _ hm1, hq2, .step hb.bt hq hp hj, fun x hx => ?_, fun x hx hnx => ?_, by simp; exact hb.len⟩⟩
  · rcases List.mem_append.1 hx with h | h
    · exact List.mem_append_left _ (hb.sub x h)
    · exact List.mem_append_right _ h
  · have hxk : x ∈ ks := by
      rcases List.mem_append.1 hx with h | h
      · exact h
      · exact absurd (List.mem_append_right _ h) hnx
    exact fun k' q' h' => List.mem_append_left _ (hb.cl x hxk (fun h => hnx (List.mem_append_left _ h)) k' q' h')
theorem BF.pop {ks qs : List Int} {g : Int → Int × Int} {y : AV} {H : AHeap} {p : Int} (hb : BF rs P A a c ks g (p :: qs) y H) (hc : clo rs c ks p) : ∃ y', slcA 1 y (some (I 1)) none none = some y' ∧ BF rs P A a c ks g qs y' H := by
  obtain ⟨y', h1, h2⟩ := hb.q.pop
  refine ⟨y', h1, ⟨hb.pre, hb.mp, h2, hb.bt, fun x hx => hb.sub x (List.mem_cons_of_mem _ hx), fun x hx hnx => ?_, by have := hb.len; simp at this; omega⟩⟩
  by_cases hxp : x = p
  · rw [hxp]; exact hc
  · exact hb.cl x hx (fun h => by
      rcases List.mem_cons.1 h with h | h
      · exact hxp h
      · exact hnx h)
set_option maxRecDepth 20000 in
set_option maxHeartbeats 16000000 in
theorem c_reached (hu : L3 A u rs) (hn : Net P rs) (ha : 0 ≤ a ∧ a < P) : ∃ H, ACalls Try.prog 81 [.agg [I P, u], I a, I c] A (.mp A.length) H ∧ A <+: H ∧ ∃ ks g, H[A.length]? = some (.mp (mG ks g)) ∧ BT rs c a ks g ∧ ∀ p, p ∈ ks ↔ cnT rs (nums rs) c a p := by
  have key : ∃ r H, ACalls Try.prog 81 [.agg [I P, u], I a, I c] A r H ∧ r = .mp A.length ∧ A <+: H ∧ ∃ ks g, H[A.length]? = some (.mp (mG ks g)) ∧ BT rs c a ks g ∧ ∀ p, p ∈ ks ↔ cnT rs (nums rs) c a p := by
    refine acallsR hmix Try.func81 (by kernel_rfl) t81 _ 3 rfl (by decide) ?_
    have hl14 := hn.l
    have hp7 := hn.p7
    dsimp only [m81]
    simp (maxSteps := 4000000) -implicitDefEqProofs -dsimp (disch := omega) only [↓AW_ops, ↓AW_seq, ↓AOps_nil, ↓AOps_pu, on_some, ↓then_normal, pval, rd_S, rd_C, put_S, cells_agg, List.replicate_succ, List.replicate_zero, List.set_cons_zero, List.set_cons_succ, List.getElem?_cons_zero, Option.getD_some, Nat.reduceSub, List.cons_append, List.nil_append, ↓AW_toScope]
    refine ScopeK.by (α := Unit) 73 (fun _ => False) (fun _ => []) (fun _ => A) (fun _ => 0) 1 ?_ (fun _ h => h.elim)
    have hm0 : (A ++ [AObj.mp (mG [] (fun _ => (0, 0)))])[A.length]? = some (.mp (mG [] (fun _ => (0, 0)))) := mp_new _ _
    have hms := msG hm0 (q := a) (by simp) (-1) (-1)
    have hnil : (mG [] (fun _ => (0, 0))) = [] := rfl
    rw [hnil, List.nil_append] at hms
    simp (maxSteps := 4000000) -implicitDefEqProofs -dsimp (disch := omega) only [↓AW_ops, ↓AW_seq, ↓AW_block, ↓AOps_nil, ↓AOps_pu, ↓AOps_ha, on_some, extK_false, extK_app, ↓then_normal, pval, hval_blds, hval_mset, hval_mkm, rd_S, rd_C, put_S, putS_none, ↓AW_toLoop, cells_int, splice, fillA, repl, eq_self, List.set_cons_zero, List.set_cons_succ, List.getElem?_cons_zero, List.getElem?_cons_succ, List.drop_zero, List.drop_succ_cons, List.drop_nil, List.take_zero, List.take_succ_cons, Option.getD_some, Option.map_some, map_c, map_n, List.length_cons, List.length_nil, Nat.reduceAdd, Nat.reduceLeDiff, Nat.zero_add, List.cons_append, List.nil_append, List.append_nil, if_true, and_true, Int.reduceNeg, ↓AW_label, hms, AW_label]
    have hlen : ((A ++ [AObj.mp []]).set A.length (.mp (mG [a] (updG (fun _ => (0, 0)) a (-1, -1))))).length = A.length + 1 := by simp
    have hbf : BF rs P A a c [a] (updG (fun _ => (0, 0)) a (-1, -1)) [a] (.sl 1 ((A ++ [AObj.mp []]).set A.length (.mp (mG [a] (updG (fun _ => (0, 0)) a (-1, -1))))).length 0 1 true) ((A ++ [AObj.mp []]).set A.length (.mp (mG [a] (updG (fun _ => (0, 0)) a (-1, -1)))) ++ [AObj.cells true [I a]]) := by
      have hp1 : A <+: (A ++ [AObj.mp []]).set A.length (.mp (mG [a] (updG (fun _ => (0, 0)) a (-1, -1)))) := pre_set (pre_app _ _) (Nat.le_refl _) _
      have hm1 : ((A ++ [AObj.mp []]).set A.length (.mp (mG [a] (updG (fun _ => (0, 0)) a (-1, -1)))))[A.length]? = some (.mp (mG [a] (updG (fun _ => (0, 0)) a (-1, -1)))) := List.getElem?_set_self (by simp)
      refine ⟨hp1.trans (pre_app _ _), pre_get (pre_app _ _) hm1, ⟨⟨_, true, [], [], rfl, mp_new _ _, by omega, by omega, fun _ => rfl⟩⟩, .base, fun p hp => hp, fun p hp hn => absurd hp hn, Nat.le_refl _⟩
    refine LoopK.by 73 (fun x : List Int × (Int → Int × Int) × List Int × AV × AHeap => BF rs P A a c x.1 x.2.1 x.2.2.1 x.2.2.2.1 x.2.2.2.2) (fun x => [(2, I c), (3, .agg [I P, u]), (7, .mp A.length), (8, x.2.2.2.1)]) (fun x => x.2.2.2.2) (fun x => 2 * (P - x.1.length) + x.2.2.1.length) (_, _, _, _, _) hbf rfl (by simp [Has, rd_s]) rfl ?_
    rintro ⟨ks, g, qs, y, H⟩ hb
    simp only at hb
    have hkP := hb.le hn ha
    have hls := hb.q.ls
    cases qs with
    | nil =>
      have hlen0 : lenA y = some (I 0) := by have := hls.len; simpa using this
      simp (maxSteps := 4000000) -implicitDefEqProofs -dsimp (disch := omega) only [↓AW_ops, ↓AW_seq, ↓AW_cond, ↓AW_exit, ↓AW_ret, ↓AOps_nil, ↓AOps_pu, on_some, condB_f, ↓then_normal, ↓then_exit, ↓inBlock_exit, ↓FinR_ret, pval, rd_S, rd_C, put_S, resV, resL, eq_self, mk, List.foldl_cons, List.foldl_nil, List.replicate_succ, List.replicate_zero, List.set_cons_zero, List.set_cons_succ, List.getElem?_cons_zero, List.getElem?_cons_succ, Option.getD_some, List.length_cons, List.length_nil, Nat.reduceAdd, Nat.reduceLeDiff, Nat.zero_add, bin_gtr, if_true, if_false, decide_false, true_and, reduceCtorEq, Int.reduceLT, ↓inScope_exit, ↓inScope_ret, hlen0]
      refine ⟨_, _, gc_all, rfl, hb.pre, ks, g, hb.mp, hb.bt, fun p => ⟨hb.bt.cn p, clo_all hb.bt.mem (fun x hx => hb.cl x hx (by simp))⟩⟩
    | cons p qs =>
      have hlen1 := hls.len
      obtain ⟨hi0, hl0⟩ := l1_at0 hls
      have huH := hu.mono hb.pre
      have hpk := hb.sub p (by simp)
      have hgt : (0 : Int) < ((p :: qs).length : Nat) := by simp only [List.length_cons]; omega
      have hN1 : (p :: qs).length = qs.length + 1 := rfl
      generalize (p :: qs).length = N at hlen1 hgt hN1 ⊢
      simp (maxSteps := 4000000) -implicitDefEqProofs -dsimp (disch := omega) only [↓AW_skip, ↓AW_ops, ↓AW_seq, ↓AW_cond, ↓AW_block, ↓AOps_nil, ↓AOps_pu, ↓AOps_ld, on_some, condB_t, ↓then_normal, pval, lval_ld, rd_S, rd_C, put_S, ↓AW_toLoop, chkd, isAdr, bgot, cells_agg, partA, eq_self, mk, List.foldl_cons, List.foldl_nil, List.replicate_succ, List.replicate_zero, List.set_cons_zero, List.set_cons_succ, List.getElem?_cons_zero, List.getElem?_cons_succ, List.drop_zero, List.drop_succ_cons, List.take_succ_cons, List.take_nil, Option.getD_some, List.length_cons, List.length_nil, Nat.reduceAdd, Nat.reduceLeDiff, Nat.zero_add, bin_gtr, if_true, if_false, Bool.false_eq_true, decide_true, hlen1, hgt, hi0, hl0, huH.len]
      refine LoopK.by 73 (fun j : Nat => j ≤ rs.length ∧ ∀ k q, k < (j : Int) → jn rs c k p q → q ∈ ks) (fun j => [(2, I c), (3, .agg [I P, u]), (7, .mp A.length), (8, y), (9, I p), (28, u), (29, I rs.length), (30, I j)]) (fun _ => H) (fun j => rs.length - j) 0 ⟨by omega, fun k q hk hj => by have := hj.1; omega⟩ rfl (by simp [Has, rd_s]) rfl ?_
      rintro j ⟨hj, hc⟩
      by_cases hlt : j < rs.length
      · obtain ⟨z, hz⟩ : ∃ z, rs[j]? = some z := ⟨_, List.getElem?_eq_getElem hlt⟩
        have hlt' : (j : Int) < rs.length := by omega
        obtain ⟨hr, _⟩ := rdx_at (rs := rs) (k := (j : Int)) (by omega) (by omega)
        rw [Int.toNat_natCast, hz] at hr
        have hze : z = rdx rs j := Option.some.inj hr
        have hwe : z.2.2 = wct rs j := by rw [hze]; rfl
        have hnext : (∀ q, jn rs c (j : Int) p q → q ∈ ks) → ∀ k q, k < ((j + 1 : Nat) : Int) → jn rs c k p q → q ∈ ks := fun h k q hk hjn => by
          by_cases hkj : k = (j : Int)
          · subst hkj; exact h q hjn
          · exact hc k q (by omega) hjn
        have hjz : ∀ q, jn rs c (j : Int) p q → z.2.2 ≤ c ∧ ((z.1 = p ∧ z.2.1 = q) ∨ (z.1 = q ∧ z.2.1 = p)) := by
          rintro q ⟨_, g1, g2⟩
          rw [hwe, hze]
          exact ⟨g1, g2⟩
        have hjn : ∀ q, z.2.2 ≤ c → ((z.1 = p ∧ z.2.1 = q) ∨ (z.1 = q ∧ z.2.1 = p)) → jn rs c (j : Int) p q := fun q g1 g2 => ⟨by omega, by rw [hwe] at g1; exact g1, by rw [hze] at g2; exact g2⟩
        by_cases hB : p = z.2.1
        · subst hB
          by_cases hA : z.1 ∈ ks
          · simp (maxSteps := 4000000) -implicitDefEqProofs -dsimp (disch := omega) only [↓AW_skip, ↓AW_ops, ↓AW_seq, ↓AW_cond, ↓AW_block, ↓AW_exit, ↓AW_ret, ↓AOps_nil, ↓AOps_pu, ↓AOps_ld, ↓AOps_guard, on_some, guardB_tf, skipS_some, condB_t, ↓then_normal, ↓then_exit, ↓inBlock_exit, ↓FinR_ret, pval, lval_ld, lval_look, rd_S, rd_C, put_S, resV, resL, chkd, isAdr, bput, bgot, cells_agg, splice, partA, eq_self, mk, List.foldl_cons, List.foldl_nil, List.replicate_succ, List.replicate_zero, List.set_cons_zero, List.set_cons_succ, List.getElem?_cons_zero, List.getElem?_cons_succ, List.drop_zero, List.drop_succ_cons, List.drop_nil, List.take_zero, List.take_succ_cons, List.take_nil, Option.getD_some, Option.map_some, Option.map_none, List.length_cons, List.length_nil, Nat.reduceAdd, Nat.reduceLeDiff, Nat.reduceEqDiff, Nat.zero_add, List.nil_append, List.append_nil, bin_add, bin_eql, bin_lss, w64, if_true, if_false, Bool.false_eq_true, decide_true, true_and, reduceCtorEq, ne_eq, not_true_eq_false, ↓inScope_exit, ↓inScope_ret, hlt', huH.idx hlt, huH.ld0 hz 3 true (by decide), e3, (lkG hb.mp z.1).1 hA]
            refine ⟨j + 1, ⟨hlt, hnext (fun q hq => ?_)⟩, by simp [Has, rd_s], by omega⟩
            rcases (hjz q hq).2 with ⟨_, g2⟩ | ⟨g1, _⟩
            · rw [← g2]; exact hpk
            · rw [← g1]; exact hA
          · by_cases hw : z.2.2 ≤ c
            · have hw2 : ¬ c < z.2.2 := by omega
              obtain ⟨y', H2, happ, hb2⟩ := hb.push hn ha hA hpk (hjn z.1 hw (.inr ⟨rfl, rfl⟩))
              have hle2 := hb2.le hn ha
              rw [List.length_append, List.length_singleton] at hle2
              simp (maxSteps := 4000000) -implicitDefEqProofs -dsimp (disch := omega) only [↓AW_skip, ↓AW_ops, ↓AW_seq, ↓AW_cond, ↓AW_block, ↓AW_exit, ↓AW_ret, ↓AOps_nil, ↓AOps_pu, ↓AOps_ld, ↓AOps_ha, ↓AOps_guard, on_some, extK_false, extK_app, guardB_ff, condB_t, condB_f, ↓then_normal, ↓then_exit, ↓inBlock_exit, ↓FinR_ret, pval, lval_ld, lval_look, hval_blds, hval_app, hval_mset, rd_S, rd_C, put_S, putS_none, resV, resL, chkd, isAdr, bput, bgot, cells_agg, cells_int, splice, partA, fillA, repl, eq_self, mk, List.foldl_cons, List.foldl_nil, List.replicate_succ, List.replicate_zero, List.set_cons_zero, List.set_cons_succ, List.getElem?_cons_zero, List.getElem?_cons_succ, List.drop_zero, List.drop_succ_cons, List.drop_nil, List.take_zero, List.take_succ_cons, List.take_nil, Option.getD_some, Option.map_some, Option.map_none, map_c, map_n, List.length_cons, List.length_nil, Nat.reduceAdd, Nat.reduceLeDiff, Nat.reduceEqDiff, Nat.zero_add, List.cons_append, List.nil_append, List.append_nil, bin_add, bin_eql, bin_lss, bin_gtr, w64, if_true, if_false, Bool.false_eq_true, decide_true, decide_false, true_and, and_true, reduceCtorEq, ne_eq, not_true_eq_false, ↓inScope_exit, ↓inScope_ret, hlt', huH.idx hlt, huH.ld0 hz 3 true (by decide), e3, (lkG hb.mp z.1).2 hA, hw2, msG hb.mp hA (j : Int) z.2.1, happ, List.replicate_zero, repl]
              exact ⟨(_, _, _, _, _), hb2, by simp [Has, rd_s], rfl, by simp only [List.length_append, List.length_cons, List.length_nil]; omega⟩
            · have hw2 : c < z.2.2 := by omega
              simp (maxSteps := 4000000) -implicitDefEqProofs -dsimp (disch := omega) only [↓AW_skip, ↓AW_ops, ↓AW_seq, ↓AW_cond, ↓AW_block, ↓AW_exit, ↓AW_ret, ↓AOps_nil, ↓AOps_pu, ↓AOps_ld, ↓AOps_guard, on_some, guardB_ff, condB_t, ↓then_normal, ↓then_exit, ↓inBlock_exit, ↓FinR_ret, pval, lval_ld, lval_look, rd_S, rd_C, put_S, resV, resL, chkd, isAdr, bput, bgot, cells_agg, splice, partA, eq_self, mk, List.foldl_cons, List.foldl_nil, List.replicate_succ, List.replicate_zero, List.set_cons_zero, List.set_cons_succ, List.getElem?_cons_zero, List.getElem?_cons_succ, List.drop_zero, List.drop_succ_cons, List.drop_nil, List.take_zero, List.take_succ_cons, List.take_nil, Option.getD_some, Option.map_some, Option.map_none, List.length_cons, List.length_nil, Nat.reduceAdd, Nat.reduceLeDiff, Nat.reduceEqDiff, Nat.zero_add, List.nil_append, List.append_nil, bin_add, bin_eql, bin_lss, bin_gtr, w64, if_true, if_false, Bool.false_eq_true, decide_true, true_and, reduceCtorEq, ne_eq, not_true_eq_false, ↓inScope_exit, ↓inScope_ret, hlt', huH.idx hlt, huH.ld0 hz 3 true (by decide), e3, (lkG hb.mp z.1).2 hA, hw2]
              exact ⟨j + 1, ⟨hlt, hnext (fun q hq => absurd (hjz q hq).1 hw)⟩, by simp [Has, rd_s], by omega⟩
        · by_cases hA2 : p = z.1
          case neg =>
            simp (maxSteps := 4000000) -implicitDefEqProofs -dsimp (disch := omega) only [↓AW_skip, ↓AW_ops, ↓AW_seq, ↓AW_cond, ↓AW_block, ↓AW_exit, ↓AW_ret, ↓AOps_nil, ↓AOps_pu, ↓AOps_ld, on_some, condB_t, condB_f, ↓then_normal, ↓then_exit, ↓inBlock_exit, ↓FinR_ret, pval, lval_ld, rd_S, rd_C, put_S, resV, resL, chkd, isAdr, bput, bgot, cells_agg, splice, partA, eq_self, mk, List.foldl_cons, List.foldl_nil, List.replicate_succ, List.replicate_zero, List.set_cons_zero, List.set_cons_succ, List.getElem?_cons_zero, List.getElem?_cons_succ, List.drop_zero, List.drop_succ_cons, List.drop_nil, List.take_zero, List.take_succ_cons, List.take_nil, Option.getD_some, Option.map_some, Option.map_none, List.length_cons, List.length_nil, Nat.reduceAdd, Nat.reduceLeDiff, Nat.reduceEqDiff, Nat.zero_add, List.nil_append, List.append_nil, bin_add, bin_eql, bin_neq, bin_lss, w64, if_true, if_false, Bool.false_eq_true, decide_true, decide_false, true_and, reduceCtorEq, ne_eq, not_true_eq_false, not_false_eq_true, ↓inScope_exit, ↓inScope_ret, hlt', huH.idx hlt, huH.ld0 hz 3 true (by decide), e3, hB, hA2]
            refine ⟨j + 1, ⟨hlt, hnext (fun q hq => ?_)⟩, by simp [Has, rd_s], by omega⟩
            rcases (hjz q hq).2 with ⟨g1, _⟩ | ⟨_, g2⟩
            · exact absurd g1.symm hA2
            · exact absurd g2.symm hB
          subst hA2
          by_cases hA : z.2.1 ∈ ks
          · simp (maxSteps := 4000000) -implicitDefEqProofs -dsimp (disch := omega) only [↓AW_skip, ↓AW_ops, ↓AW_seq, ↓AW_cond, ↓AW_block, ↓AW_exit, ↓AW_ret, ↓AOps_nil, ↓AOps_pu, ↓AOps_ld, ↓AOps_guard, on_some, guardB_tf, skipS_some, condB_t, condB_f, ↓then_normal, ↓then_exit, ↓inBlock_exit, ↓FinR_ret, pval, lval_ld, lval_look, rd_S, rd_C, put_S, resV, resL, chkd, isAdr, bput, bgot, cells_agg, splice, partA, eq_self, mk, List.foldl_cons, List.foldl_nil, List.replicate_succ, List.replicate_zero, List.set_cons_zero, List.set_cons_succ, List.getElem?_cons_zero, List.getElem?_cons_succ, List.drop_zero, List.drop_succ_cons, List.drop_nil, List.take_zero, List.take_succ_cons, List.take_nil, Option.getD_some, Option.map_some, Option.map_none, List.length_cons, List.length_nil, Nat.reduceAdd, Nat.reduceLeDiff, Nat.reduceEqDiff, Nat.zero_add, List.nil_append, List.append_nil, bin_add, bin_eql, bin_neq, bin_lss, w64, if_true, if_false, Bool.false_eq_true, decide_true, decide_false, true_and, reduceCtorEq, ne_eq, not_true_eq_false, ↓inScope_exit, ↓inScope_ret, hlt', huH.idx hlt, huH.ld0 hz 3 true (by decide), e3, hB, (lkG hb.mp z.2.1).1 hA]
            refine ⟨j + 1, ⟨hlt, hnext (fun q hq => ?_)⟩, by simp [Has, rd_s], by omega⟩
            rcases (hjz q hq).2 with ⟨_, g2⟩ | ⟨_, g2⟩
            · rw [← g2]; exact hA
            · exact absurd g2.symm hB
          · by_cases hw : z.2.2 ≤ c
            · have hw2 : ¬ c < z.2.2 := by omega
              obtain ⟨y', H2, happ, hb2⟩ := hb.push hn ha hA hpk (hjn z.2.1 hw (.inl ⟨rfl, rfl⟩))
              have hle2 := hb2.le hn ha
              rw [List.length_append, List.length_singleton] at hle2
              simp (maxSteps := 4000000) -implicitDefEqProofs -dsimp (disch := omega) only [↓AW_skip, ↓AW_ops, ↓AW_seq, ↓AW_cond, ↓AW_block, ↓AW_exit, ↓AW_ret, ↓AOps_nil, ↓AOps_pu, ↓AOps_ld, ↓AOps_ha, ↓AOps_guard, on_some, extK_false, extK_app, guardB_ff, condB_t, condB_f, ↓then_normal, ↓then_exit, ↓inBlock_exit, ↓FinR_ret, pval, lval_ld, lval_look, hval_blds, hval_app, hval_mset, rd_S, rd_C, put_S, putS_none, resV, resL, chkd, isAdr, bput, bgot, cells_agg, cells_int, splice, partA, fillA, repl, eq_self, mk, List.foldl_cons, List.foldl_nil, List.replicate_succ, List.replicate_zero, List.set_cons_zero, List.set_cons_succ, List.getElem?_cons_zero, List.getElem?_cons_succ, List.drop_zero, List.drop_succ_cons, List.drop_nil, List.take_zero, List.take_succ_cons, List.take_nil, Option.getD_some, Option.map_some, Option.map_none, map_c, map_n, List.length_cons, List.length_nil, Nat.reduceAdd, Nat.reduceLeDiff, Nat.reduceEqDiff, Nat.zero_add, List.cons_append, List.nil_append, List.append_nil, bin_add, bin_eql, bin_neq, bin_lss, bin_gtr, w64, if_true, if_false, Bool.false_eq_true, decide_true, decide_false, true_and, and_true, reduceCtorEq, ne_eq, not_true_eq_false, ↓inScope_exit, ↓inScope_ret, hlt', huH.idx hlt, huH.ld0 hz 3 true (by decide), e3, hB, (lkG hb.mp z.2.1).2 hA, hw2, msG hb.mp hA (j : Int) z.1, happ, List.replicate_zero, repl]
              exact ⟨(_, _, _, _, _), hb2, by simp [Has, rd_s], rfl, by simp only [List.length_append, List.length_cons, List.length_nil]; omega⟩
            · have hw2 : c < z.2.2 := by omega
              simp (maxSteps := 4000000) -implicitDefEqProofs -dsimp (disch := omega) only [↓AW_skip, ↓AW_ops, ↓AW_seq, ↓AW_cond, ↓AW_block, ↓AW_exit, ↓AW_ret, ↓AOps_nil, ↓AOps_pu, ↓AOps_ld, ↓AOps_guard, on_some, guardB_ff, condB_t, condB_f, ↓then_normal, ↓then_exit, ↓inBlock_exit, ↓FinR_ret, pval, lval_ld, lval_look, rd_S, rd_C, put_S, resV, resL, chkd, isAdr, bput, bgot, cells_agg, splice, partA, eq_self, mk, List.foldl_cons, List.foldl_nil, List.replicate_succ, List.replicate_zero, List.set_cons_zero, List.set_cons_succ, List.getElem?_cons_zero, List.getElem?_cons_succ, List.drop_zero, List.drop_succ_cons, List.drop_nil, List.take_zero, List.take_succ_cons, List.take_nil, Option.getD_some, Option.map_some, Option.map_none, List.length_cons, List.length_nil, Nat.reduceAdd, Nat.reduceLeDiff, Nat.reduceEqDiff, Nat.zero_add, List.nil_append, List.append_nil, bin_add, bin_eql, bin_neq, bin_lss, bin_gtr, w64, if_true, if_false, Bool.false_eq_true, decide_true, decide_false, true_and, reduceCtorEq, ne_eq, not_true_eq_false, ↓inScope_exit, ↓inScope_ret, hlt', huH.idx hlt, huH.ld0 hz 3 true (by decide), e3, hB, (lkG hb.mp z.2.1).2 hA, hw2]
              exact ⟨j + 1, ⟨hlt, hnext (fun q hq => absurd (hjz q hq).1 hw)⟩, by simp [Has, rd_s], by omega⟩
      · have hlt' : ¬ ((j : Int) < rs.length) := by omega
        obtain ⟨y', hs, hb2⟩ := hb.pop (fun k q hq => hc k q (by have := hq.1; omega) hq)
        simp (maxSteps := 4000000) -implicitDefEqProofs -dsimp (disch := omega) only [↓AW_ops, ↓AW_seq, ↓AW_cond, ↓AW_exit, ↓AW_ret, ↓AOps_nil, ↓AOps_pu, on_some, condB_f, ↓then_normal, ↓then_exit, ↓inBlock_normal, ↓inBlock_exit, ↓FinR_ret, pval, rd_S, rd_C, put_S, resV, resL, eq_self, mk, List.foldl_cons, List.foldl_nil, List.replicate_succ, List.replicate_zero, List.set_cons_zero, List.set_cons_succ, List.getElem?_cons_zero, List.getElem?_cons_succ, Option.getD_some, Option.map_some, Option.map_none, List.length_cons, List.length_nil, Nat.reduceAdd, Nat.reduceLeDiff, Nat.reduceEqDiff, Nat.zero_add, bin_lss, if_true, if_false, decide_false, true_and, reduceCtorEq, ↓inScope_exit, ↓inScope_ret, hlt', hs]
        exact ⟨(_, _, _, _, _), hb2, by simp [Has, rd_s], rfl, by simp only []; omega⟩
  obtain ⟨r, H, h1, rfl, h2⟩ := key
  exact ⟨H, h1, h2⟩
end
end Go.Proofs.Ytkgfcdpckfhknaa

namespace Go.Proofs.Ytkgfcdpckfhknaa
open Go Go.Eng
/-- The error of a search for a wall. -/
def hE (Q : Int) (rs : List Rd) (a b c : Int) : Int := if pE Q rs a b = 0 then (if 0 ≤ c ∧ c ≤ 99 then 0 else 1) else pE Q rs a b
noncomputable def hB (Q : Int) (rs : List Rd) (a b c : Int) : Bool := decide (hE Q rs a b c = 0 ∧ ¬ cnT rs (nums rs) c a b)
section
variable {Q : Int} {rs : List Rd} {ks : List Int} {u v : AV} {A : AHeap} {a b c : Int}
end
end Go.Proofs.Ytkgfcdpckfhknaa

namespace Go.Proofs.Ytkgfcdpckfhknaa
open Go Go.Eng
/-- What stands at a place of a list that is half turned. -/
def hrev {α : Type} (xs zs : List α) (i : Nat) : Prop := zs.length = xs.length ∧ ∀ k, k < xs.length → zs[k]? = if k < i ∨ xs.length - 1 - i < k then xs[xs.length - 1 - k]? else xs[k]?
theorem hrev_0 {α : Type} (xs : List α) : hrev xs xs 0 := ⟨rfl, fun k hk => by rw [if_neg (by omega)]⟩
theorem hrev_end {α : Type} {xs zs : List α} {i : Nat} (h : hrev xs zs i) (hi : xs.length ≤ 2 * i + 1) : zs = xs.reverse := by
  refine List.ext_getElem? (fun k => ?_)
  by_cases hk : k < xs.length
  · rw [h.2 k hk, List.getElem?_reverse hk]
    split
    · rfl
    · have : xs.length - 1 - k = k := by omega
      rw [this]
  · rw [List.getElem?_eq_none (by rw [h.1]; omega), List.getElem?_eq_none (by simp; omega)]
theorem hrev_step {α : Type} {xs zs : List α} {i : Nat} (h : hrev xs zs i) (hi : 2 * i + 1 < xs.length) {a b : α} (ha : zs[i]? = some a) (hb : zs[xs.length - 1 - i]? = some b) :
    hrev xs ((zs.set i b).set (xs.length - 1 - i) a) (i + 1) := by
  refine ⟨by simp [h.1], fun k hk => ?_⟩
  have h1 := h.2 i (by omega)
  rw [if_neg (by omega), ha] at h1
  have h2 := h.2 (xs.length - 1 - i) (by omega)
  rw [if_neg (by omega), hb] at h2
  by_cases hk1 : k = xs.length - 1 - i
  · subst hk1
    rw [List.getElem?_set_self (by simp [h.1]; omega), if_pos (by omega), h1]
    congr 1
    omega
  · rw [List.getElem?_set_ne (Ne.symm hk1)]
    by_cases hk2 : k = i
    · subst hk2
      rw [List.getElem?_set_self (by rw [h.1]; omega), if_pos (by omega), h2]
    · rw [List.getElem?_set_ne (Ne.symm hk2), h.2 k hk]
      by_cases h3 : k < i ∨ xs.length - 1 - i < k
      · rw [if_pos h3, if_pos (by omega)]
      · rw [if_neg h3, if_neg (by omega)]
set_option maxHeartbeats 4000000 in
theorem c_Reverse {xs : List Int} {v : AV} {A H : AHeap} {n : Nat} (h : OL 1 e1 A H n v xs) (hl : xs.length ≤ 1000000) : ACalls Try.prog 82 [v] H (.tuple []) (H.set n (.cells true (xs.reverse.flatMap e1))) := by
  refine acalls hmix Try.func82 (by kernel_rfl) t82 1 rfl (by decide) ?_
  dsimp only [m82]
  simp (maxSteps := 4000000) -implicitDefEqProofs -dsimp (disch := omega) only [↓AW_ops, ↓AW_seq, ↓AW_block, ↓AOps_nil, ↓AOps_pu, on_some, ↓then_normal, pval, rd_S, rd_C, put_S, ↓AW_toLoop, List.replicate_succ, List.replicate_zero, List.set_cons_zero, List.set_cons_succ, List.getElem?_cons_zero, List.getElem?_cons_succ, Option.getD_some, Nat.reduceSub, List.cons_append, List.nil_append, bin_sub, w64, h.ls.len]
  refine LoopK.by 28 (fun x : Nat × List Int => (2 * x.1 ≤ xs.length + 1 ∧ hrev xs x.2 x.1)) (fun x => [(0, v), (2, I x.1), (3, I ((xs.length : Int) - 1 - x.1))]) (fun x => H.set n (.cells true (x.2.flatMap e1))) (fun x => xs.length - x.1) (0, xs) ⟨by simp only; omega, hrev_0 xs⟩ rfl (by simp [Has, rd_s]) (by simp only; rw [set_same h.ob]) ?_
  rintro ⟨i, zs⟩ ⟨hi, hz⟩
  simp only at hi hz
  have ho := OL_setAll h zs hz.1
  by_cases hlt : (i : Int) < (xs.length : Int) - 1 - i
  · have hin : i < xs.length := by omega
    have hjl : xs.length - 1 - i < zs.length := by rw [hz.1]; omega
    have hil : i < zs.length := by rw [hz.1]; omega
    have hj : (xs.length : Int) - 1 - i = ((xs.length - 1 - i : Nat) : Int) := by omega
    obtain ⟨a, ha⟩ : ∃ a, zs[i]? = some a := ⟨_, List.getElem?_eq_getElem hil⟩
    obtain ⟨b, hb⟩ : ∃ b, zs[xs.length - 1 - i]? = some b := ⟨_, List.getElem?_eq_getElem hjl⟩
    have hlt' := hlt
    rw [hj] at hlt'
    have h1 := ho.st hil (I b) b rfl
    rw [List.set_set] at h1
    have ho2 := OL_setAll h (zs.set i b) (by simp [hz.1])
    have hjl2 : xs.length - 1 - i < (zs.set i b).length := by simpa using hjl
    have h2 := ho2.st hjl2 (I a) a rfl
    rw [List.set_set] at h2
    have hst := hrev_step hz (by omega) ha hb
    generalize hJ : xs.length - 1 - i = j at *
    simp (maxSteps := 4000000) -implicitDefEqProofs -dsimp (disch := omega) only [↓AW_skip, ↓AW_ops, ↓AW_seq, ↓AW_cond, ↓AW_block, ↓AOps_nil, ↓AOps_pu, ↓AOps_ld, ↓AOps_ha, on_some, extK_false, condB_t, ↓then_normal, ↓inBlock_normal, pval, lval, hval_st, rd_S, rd_C, put_S, putS_none, partA, eq_self, mk, List.foldl_cons, List.foldl_nil, List.replicate_succ, List.replicate_zero, List.set_cons_zero, List.set_cons_succ, List.getElem?_cons_zero, List.getElem?_cons_succ, List.drop_zero, List.take_succ_cons, List.take_nil, Option.getD_some, Option.map_some, List.length_cons, List.length_nil, Nat.reduceAdd, Nat.reduceLeDiff, Nat.zero_add, bin_add, bin_sub, bin_lss, w64, if_true, if_false, Bool.false_eq_true, decide_true, Go.Eng.e1, true_and, hj, hlt', ho.ls.idx hil, ho.ls.idx hjl, ho.ls.ld0 ha 1 false (by decide), ho.ls.ld0 hb 1 false (by decide), h1, h2]
    refine ⟨(i + 1, _), ⟨by simp only; omega, hst⟩, by simp [Has, rd_s]; omega, rfl, by simp only; omega⟩
  · have he := hrev_end hz (by omega)
    simp (maxSteps := 4000000) -implicitDefEqProofs -dsimp (disch := omega) only [↓AW_ops, ↓AW_seq, ↓AW_cond, ↓AW_exit, ↓AOps_nil, ↓AOps_pu, on_some, condB_f, ↓then_normal, ↓then_exit, ↓inBlock_exit, ↓Fin_normal, pval, rd_S, put_S, resV, resL, eq_self, mk, List.foldl_cons, List.foldl_nil, List.replicate_succ, List.replicate_zero, List.set_cons_zero, List.set_cons_succ, List.getElem?_cons_zero, List.getElem?_cons_succ, Option.getD_some, bin_lss, if_true, decide_false, hlt]
    rw [he] at ho ⊢
    exact gc_same_all rfl rfl
theorem c_ReverseNil (A : AHeap) : ACalls Try.prog 82 [.nilS] A (.tuple []) A := by
  refine acalls hmix Try.func82 (by kernel_rfl) t82 1 rfl (by decide) ?_
  dsimp only [m82]
  simp (maxSteps := 4000000) -implicitDefEqProofs -dsimp (disch := omega) only [↓AW_ops, ↓AW_seq, ↓AW_block, ↓AOps_nil, ↓AOps_pu, on_some, ↓then_normal, pval, rd_S, rd_C, put_S, ↓AW_toLoop, List.replicate_succ, List.replicate_zero, List.set_cons_zero, List.set_cons_succ, List.getElem?_cons_zero, List.getElem?_cons_succ, Option.getD_some, Nat.reduceSub, List.cons_append, List.nil_append, bin_sub, w64, Int.reduceNeg, Int.reduceSub, lenA]
  refine LoopK.by (α := Unit) 28 (fun _ => True) (fun _ => [(0, .nilS), (2, I 0), (3, I (-1))]) (fun _ => A) (fun _ => 0) () trivial rfl (by simp [Has, rd_s]) rfl ?_
  rintro x _
  simp (maxSteps := 4000000) -implicitDefEqProofs -dsimp (disch := omega) only [↓AW_ops, ↓AW_seq, ↓AW_cond, ↓AW_exit, ↓AOps_nil, ↓AOps_pu, on_some, condB_f, ↓then_normal, ↓then_exit, ↓inBlock_exit, ↓Fin_normal, pval, rd_S, put_S, resV, resL, eq_self, mk, List.foldl_cons, List.foldl_nil, List.replicate_succ, List.replicate_zero, List.set_cons_zero, List.set_cons_succ, List.getElem?_cons_zero, List.getElem?_cons_succ, Option.getD_some, bin_lss, if_true, decide_false, Int.reduceLT, Int.reduceNeg]
  exact gc_same_all rfl rfl
theorem c_RevAcc {A H : AHeap} {v : AV} {xs : List Int} (h : AccL 1 e1 A H v xs) (hl : xs.length ≤ 1000000) : ∃ H', ACalls Try.prog 82 [v] H (.tuple []) H' ∧ A <+: H' ∧ L1 H' v xs.reverse := by
  by_cases h0 : xs.length = 0
  · have hz : v = .nilS := by
      rcases h.2.2 with ⟨_, h4⟩ | ⟨h3, _⟩
      · exact h4
      · omega
    have hx : xs = [] := List.eq_nil_of_length_eq_zero h0
    subst hz
    subst hx
    exact ⟨H, c_ReverseNil H, h.1, L1_nil _⟩
  · obtain ⟨n, ho, hv⟩ := AccL_ol h e1_len (by omega)
    have ho2 := OL_setAll ho xs.reverse (by simp)
    exact ⟨_, c_Reverse ho hl, ho2.pre, ho2.ls⟩
/-- One road further on a way that is built from its end. -/
theorem wk_back {rs : List Rd} {c k p q b : Int} {out : List Int} (hj : jn rs c k p q) (hpq : ¬ p = q) (h : ∀ w, 0 ≤ w → w ≤ c → ∃ w', wk rs (q, w) out.reverse = some (b, w') ∧ w' ≤ c) :
    ∀ w, 0 ≤ w → w ≤ c → ∃ w', wk rs (p, w) (out ++ [k]).reverse = some (b, w') ∧ w' ≤ c := by
  intro w h0 h1
  obtain ⟨w', h2, h3⟩ := h (max w (wct rs k)) (by omega) (by have := hj.2.1; omega)
  refine ⟨w', ?_, h3⟩
  rw [List.reverse_append]
  show wk rs (p, w) (k :: out.reverse) = _
  rw [wk]
  have hs : stp rs (p, w) k = some (q, max w (wct rs k)) := by
    unfold stp
    rcases hj.2.2 with ⟨g1, g2⟩ | ⟨g1, g2⟩
    · rw [if_pos g1.symm, g2]
    · have hn : ¬ p = (rdx rs k).1 := by rw [g1]; exact hpq
      rw [if_neg hn, if_pos g2.symm, g1]
  rw [hs]
  exact h2
section
variable {Q : Int} {rs : List Rd} {ks : List Int} {u v : AV} {A : AHeap} {a b : Int}
theorem wB_t (h : wB Q rs a b = true) : pE Q rs a b = 0 ∧ bt rs (nums rs) a b = some (wC Q rs a b) := by
  unfold wB at h
  rw [Bool.and_eq_true, decide_eq_true_eq] at h
  refine ⟨h.1, ?_⟩
  unfold wC
  rw [if_pos h.1]
  cases hb : bt rs (nums rs) a b with
  | none => rw [hb] at h; simp at h
  | some d => rfl
theorem notOf_of (h : Nos rs ks) : ¬ notOf rs.length ks = true := by
  intro hn
  unfold notOf at hn
  rw [List.any_eq_true] at hn
  obtain ⟨k, hk, hx⟩ := hn
  have := h k hk
  rw [decide_eq_true (show 0 ≤ k ∧ k ≤ (rs.length : Int) - 1 from this)] at hx
  cases hx
set_option maxRecDepth 20000 in
set_option maxHeartbeats 16000000 in
theorem s36 (hu : L3 A u rs) (hP : W Q) (a b : Int) : ∃ r H, ACalls Try.prog 36 [.agg [I Q, u], I a, I b] A (.tuple [r, B (wB Q rs a b), I (pE Q rs a b)]) H ∧ A <+: H ∧ ((wB Q rs a b = true → ∃ ks, L1 H r ks ∧ ks.length ≤ 7 ∧ yE Q rs a b ks = 0 ∧ yC Q rs a b ks = wC Q rs a b) ∧ (wB Q rs a b = false → r = .nilS)) := by
  have key : ∃ t H, ACalls Try.prog 36 [.agg [I Q, u], I a, I b] A t H ∧ ∃ r, t = .tuple [r, B (wB Q rs a b), I (pE Q rs a b)] ∧ A <+: H ∧ ((wB Q rs a b = true → ∃ ks, L1 H r ks ∧ ks.length ≤ 7 ∧ yE Q rs a b ks = 0 ∧ yC Q rs a b ks = wC Q rs a b) ∧ (wB Q rs a b = false → r = .nilS)) := by
    refine acallsR hmix Try.func36 (by kernel_rfl) t36 _ 3 rfl (by decide) ?_
    dsimp only [m36]
    simp (maxSteps := 4000000) -implicitDefEqProofs -dsimp (disch := omega) only [↓AW_ops, ↓AW_seq, ↓AOps_nil, ↓AOps_pu, ↓AOps_call, on_some, ↓then_normal, pval, rd_S, rd_C, put_S, chkd, bgot, cells_agg, partA, eq_self, List.replicate_succ, List.replicate_zero, List.set_cons_zero, List.set_cons_succ, List.getElem?_cons_zero, List.getElem?_cons_succ, List.drop_zero, List.take_succ_cons, List.take_nil, Option.getD_some, map_c, map_n, List.length_cons, List.length_nil, Nat.reduceAdd, Nat.reduceSub, Nat.reduceLeDiff, Nat.reduceEqDiff, Nat.zero_add, List.cons_append, List.nil_append, if_true, if_false]
    refine CallK.of (s25 hu hP a b) ?_
    cases hw : wB Q rs a b with
    | false =>
      simp (maxSteps := 4000000) -implicitDefEqProofs -dsimp (disch := omega) only [↓AW_ops, ↓AW_seq, ↓AW_cond, ↓AW_ret, ↓AOps_nil, ↓AOps_pu, on_some, extK_same, condB_t, ↓then_normal, ↓then_ret, ↓FinR_ret, pval, rd_S, rd_C, put_S, resV, resL, eq_self, List.replicate_succ, List.replicate_zero, List.set_cons_zero, List.set_cons_succ, List.getElem?_cons_zero, List.getElem?_cons_succ, Option.getD_some, Nat.reduceSub, List.cons_append, List.nil_append, Bool.false_eq_true, Bool.not_false, forall_const, true_and, false_implies]
      exact ⟨_, _, gc_same rfl, _, rfl, List.prefix_refl _, rfl⟩
    | true =>
      obtain ⟨h0, hbt⟩ := wB_t hw
      obtain ⟨hn, ha, hb⟩ := pE_0.1 h0
      obtain ⟨P, rfl⟩ := hn.nat
      have hp7 := hn.p7
      rw [h0]
      have hc0 : 0 ≤ wC P rs a b := by
        rcases bt_spec hbt with ⟨_, h⟩ | ⟨_, h, _⟩ <;> omega
      have hcn : cnT rs (nums rs) (wC P rs a b) a b := by
        rcases bt_spec hbt with ⟨h, _⟩ | ⟨_, _, h, _⟩
        · rw [h]; exact .refl _
        · exact h
      have hfin : ∀ out : List Int, Nos rs out → (∀ w, 0 ≤ w → w ≤ wC P rs a b → ∃ w', wk rs (a, w) out.reverse = some (b, w') ∧ w' ≤ wC P rs a b) → yE P rs a b out.reverse = 0 ∧ yC P rs a b out.reverse = wC P rs a b := by
        intro out hno h
        obtain ⟨w', h1, h2⟩ := h 0 (Int.le_refl _) hc0
        have hy : yE P rs a b out.reverse = 0 := by
          rw [yE_s h0 (notOf_of (fun k hk => hno k (List.mem_reverse.1 hk))) h1, if_pos rfl]
        have h3 := (way_worst hy).2.2
        have h4 := yC_s hy h1
        refine ⟨hy, ?_⟩
        rw [h4] at h3 ⊢
        simp only at h3 ⊢
        omega
      generalize wC P rs a b = c at *
      simp (maxSteps := 4000000) -implicitDefEqProofs -dsimp (disch := omega) only [↓AW_skip, ↓AW_ops, ↓AW_seq, ↓AW_cond, ↓AOps_nil, ↓AOps_pu, ↓AOps_call, on_some, extK_same, condB_f, ↓then_normal, pval, rd_S, put_S, chkd, bgot, partA, eq_self, List.replicate_succ, List.replicate_zero, List.set_cons_zero, List.set_cons_succ, List.getElem?_cons_zero, List.getElem?_cons_succ, List.drop_zero, List.take_succ_cons, List.take_nil, Option.getD_some, map_c, map_n, List.length_cons, List.length_nil, Nat.reduceAdd, Nat.reduceSub, Nat.reduceLeDiff, Nat.reduceEqDiff, Nat.zero_add, List.cons_append, List.nil_append, if_true, if_false, Bool.not_true]
      obtain ⟨H, hc, hp, kk, g, hm, hB, hiff⟩ := c_reached (c := c) hu hn (a := a) (by omega)
      obtain ⟨r, hr⟩ := hB.rank
      have hkP : kk.length ≤ P := by
        have := nodup_len_le hB.nodup (ys := plc P) (fun x hx => mem_plc.2 (hB.inP hn (by omega) x hx))
        rw [plc_len] at this
        exact this
      refine CallK.of hc ?_
      simp (maxSteps := 4000000) -implicitDefEqProofs -dsimp (disch := omega) only [↓AW_ops, ↓AW_seq, ↓AW_block, ↓AOps_nil, ↓AOps_pu, on_some, extK_false, ↓then_normal, pval, rd_S, rd_C, put_S, ↓AW_toLoop, List.replicate_succ, List.replicate_zero, List.set_cons_zero, List.set_cons_succ, List.getElem?_cons_zero, List.getElem?_cons_succ, Option.getD_some, Nat.reduceSub, List.cons_append, List.nil_append]
      have hbk := (hiff b).2 hcn
      refine LoopK.by 48 (fun x : List Int × Int × AV × AHeap => AccL 1 e1 H x.2.2.2 x.2.2.1 x.1 ∧ x.2.1 ∈ kk ∧ x.1.length + r x.2.1 ≤ 7 ∧ Nos rs x.1 ∧ ∀ w, 0 ≤ w → w ≤ c → ∃ w', wk rs (x.2.1, w) x.1.reverse = some (b, w') ∧ w' ≤ c) (fun x => [(1, I a), (12, .mp A.length), (13, x.2.2.1), (14, I x.2.1)]) (fun x => x.2.2.2) (fun x => r x.2.1) ([], b, .nilS, H) ⟨AccL.nil (List.prefix_refl _), hbk, by have := (hr b hbk).1; simp; omega, by intro k hk; simp at hk, fun w h0 h1 => ⟨w, rfl, h1⟩⟩ rfl (by simp [Has, rd_s]) rfl ?_
      rintro ⟨out, at', y, H1⟩ ⟨hac, hak, hlr, hno, hwk⟩
      simp only at hac hak hlr hno hwk
      have hm1 := pre_get hac.1 hm
      by_cases hat : at' = a
      · subst hat
        obtain ⟨H2, hrev, hp2, hL⟩ := c_RevAcc hac (by omega)
        obtain ⟨f1, f2⟩ := hfin out hno hwk
        simp (maxSteps := 4000000) -implicitDefEqProofs -dsimp (disch := omega) only [↓AW_ops, ↓AW_seq, ↓AW_cond, ↓AW_exit, ↓AOps_nil, ↓AOps_pu, ↓AOps_call, on_some, condB_f, ↓then_normal, ↓then_exit, ↓inBlock_exit, pval, rd_S, put_S, eq_self, mk, List.foldl_cons, List.foldl_nil, List.replicate_succ, List.replicate_zero, List.set_cons_zero, List.set_cons_succ, List.getElem?_cons_zero, List.getElem?_cons_succ, Option.getD_some, map_c, map_n, bin_neq, if_true, decide_false, forall_const, and_true, false_implies, reduceCtorEq, not_true_eq_false]
        refine CallK.of hrev ?_
        simp (maxSteps := 4000000) -implicitDefEqProofs -dsimp (disch := omega) only [↓AW_ops, ↓AW_seq, ↓AW_ret, ↓AOps_nil, ↓AOps_pu, on_some, extK_false, ↓then_normal, ↓FinR_ret, pval, rd_S, rd_C, put_S, resV, resL, eq_self, mk, List.foldl_cons, List.foldl_nil, List.replicate_succ, List.replicate_zero, List.set_cons_zero, List.set_cons_succ, List.getElem?_cons_zero, List.getElem?_cons_succ, Option.getD_some, forall_const, and_true, false_implies, reduceCtorEq]
        exact ⟨_, _, gc_all, _, rfl, hp.trans hp2, _, hL, by simp; omega, f1, f2⟩
      · obtain ⟨g1, g2, g3⟩ := (hr at' hak).2 hat
        have hpq : ¬ (g at').2 = at' := fun e => by rw [e] at g2; omega
        have hlk := lkG1 hm1 hak
        obtain ⟨v', H2, happ, hacc, _, n, len, rfl, _⟩ := AccL_push2 hac e1_len (by omega) (g at').1 (by simp only [lim]; omega)
        simp only [Go.Eng.e1] at happ
        have hm2 := pre_get hacc.1 hm
        have hlk2 := lkG1 hm2 hak
        simp (maxSteps := 4000000) -implicitDefEqProofs -dsimp (disch := omega) only [↓AW_skip, ↓AW_ops, ↓AW_seq, ↓AW_cond, ↓AW_block, ↓AOps_nil, ↓AOps_pu, ↓AOps_ld, ↓AOps_ha, on_some, extK_false, extK_app, condB_t, ↓then_normal, ↓inBlock_normal, pval, lval_look, hval_blds, hval_app, rd_S, put_S, cells_int, splice, partA, fillA, repl, eq_self, mk, List.foldl_cons, List.foldl_nil, List.replicate_succ, List.replicate_zero, List.set_cons_zero, List.set_cons_succ, List.getElem?_cons_zero, List.getElem?_cons_succ, List.drop_zero, List.drop_succ_cons, List.drop_nil, List.take_zero, List.take_succ_cons, List.take_nil, Option.getD_some, map_c, map_n, List.length_cons, List.length_nil, Nat.reduceAdd, Nat.reduceLeDiff, Nat.zero_add, List.nil_append, List.append_nil, bin_neq, if_true, if_false, Bool.false_eq_true, decide_true, true_and, and_true, not_false_eq_true, hat, hlk, hlk2, happ, List.replicate_zero, repl]
        refine ⟨(out ++ [(g at').1], (g at').2, .sl 1 n 0 len false, H2), ⟨hacc, g1, by simp; omega, fun k hk => ?_, wk_back g3 hpq hwk⟩, by simp [Has, rd_s], rfl, g2⟩
        rcases List.mem_append.1 hk with h | h
        · exact hno k h
        · rw [List.mem_singleton.1 h]; exact g3.1
  obtain ⟨t, H, h1, r, rfl, h2⟩ := key
  exact ⟨r, H, h1, h2⟩
theorem pE_symm : pE Q rs a b = pE Q rs b a := by
  unfold pE
  by_cases h : vE Q rs = 0
  · rw [if_pos h, if_pos h]
    by_cases h2 : (0 ≤ a ∧ a ≤ Q - 1) ∧ (0 ≤ b ∧ b ≤ Q - 1)
    · rw [if_pos h2, if_pos h2.symm]
    · rw [if_neg h2, if_neg (fun e => h2 e.symm)]
  · rw [if_neg h, if_neg h]
theorem w_symm : wC Q rs b a = wC Q rs a b ∧ wB Q rs b a = wB Q rs a b := by
  unfold wC wB
  rw [pE_symm (a := b) (b := a), bt_symm (a := b) (b := a)]
  exact ⟨rfl, rfl⟩
set_option maxRecDepth 20000 in
set_option maxHeartbeats 16000000 in
theorem s9 (hu : L3 A u rs) (hP : W Q) (a b : Int) : ACalls Try.prog 9 [.agg [I Q, u], .agg [I a, I b]] A (B true) A := by
  refine acalls hmix Try.func9 (by kernel_rfl) t9 2 rfl (by decide) ?_
  dsimp only [m9]
  simp (maxSteps := 4000000) -implicitDefEqProofs -dsimp (disch := omega) only [↓AW_ops, ↓AW_seq, ↓AOps_nil, ↓AOps_pu, ↓AOps_call, on_some, ↓then_normal, pval, rd_S, rd_C, put_S, chkd, bgot, AV.cells?, partA, eq_self, List.replicate_succ, List.replicate_zero, List.set_cons_zero, List.set_cons_succ, List.getElem?_cons_zero, List.getElem?_cons_succ, List.drop_zero, List.take_succ_cons, List.take_nil, Option.getD_some, map_c, map_n, List.length_cons, List.length_nil, Nat.reduceAdd, Nat.reduceSub, Nat.reduceLeDiff, Nat.reduceEqDiff, Nat.zero_add, List.cons_append, List.nil_append, if_true, if_false]
  refine CallK.of (s17 hu Q) ?_
  by_cases h1 : (100 : Int) < rs.length
  · simp (maxSteps := 4000000) -implicitDefEqProofs -dsimp (disch := omega) only [↓AW_ops, ↓AW_seq, ↓AW_cond, ↓AOps_nil, ↓AOps_call, extK_same, condB_t, ↓then_normal, rd_S, put_S, List.replicate_succ, List.replicate_zero, List.set_cons_zero, List.set_cons_succ, List.getElem?_cons_zero, List.getElem?_cons_succ, Option.getD_some, map_n, Nat.reduceSub, List.cons_append, List.nil_append, decide_true, h1]
    refine CallK.of (known A) ?_
    simp (maxSteps := 4000000) -implicitDefEqProofs -dsimp (disch := omega) only [↓AW_ret, ↓AOps_nil, ↓AOps_pu, on_some, extK_same, ↓then_normal, ↓then_ret, ↓Fin_ret, pval, rd_S, put_S, resV, resL, List.replicate_succ, List.replicate_zero, List.set_cons_zero, List.set_cons_succ, List.getElem?_cons_zero, List.getElem?_cons_succ, Option.getD_some, Nat.reduceSub, List.cons_append, List.nil_append]
    exact gc_same rfl
  simp (maxSteps := 4000000) -implicitDefEqProofs -dsimp (disch := omega) only [↓AW_skip, ↓AW_ops, ↓AW_seq, ↓AW_cond, ↓AOps_nil, ↓AOps_pu, ↓AOps_call, on_some, extK_same, condB_f, ↓then_normal, pval, rd_S, put_S, chkd, isAdr, bgot, AV.cells?, partA, eq_self, List.replicate_succ, List.replicate_zero, List.set_cons_zero, List.set_cons_succ, List.getElem?_cons_zero, List.getElem?_cons_succ, List.drop_zero, List.drop_succ_cons, List.take_zero, List.take_succ_cons, List.take_nil, Option.getD_some, map_c, map_n, List.length_cons, List.length_nil, Nat.reduceAdd, Nat.reduceSub, Nat.reduceLeDiff, Nat.reduceEqDiff, Nat.zero_add, List.cons_append, List.nil_append, if_true, if_false, Bool.false_eq_true, decide_false, h1]
  refine CallK.of (s25 hu hP a b) ?_
  simp (maxSteps := 4000000) -implicitDefEqProofs -dsimp (disch := omega) only [↓AW_ops, ↓AW_seq, ↓AOps_nil, ↓AOps_pu, ↓AOps_call, on_some, extK_same, ↓then_normal, pval, rd_S, put_S, chkd, isAdr, bgot, AV.cells?, partA, eq_self, List.replicate_succ, List.replicate_zero, List.set_cons_zero, List.set_cons_succ, List.getElem?_cons_zero, List.getElem?_cons_succ, List.drop_zero, List.drop_succ_cons, List.take_zero, List.take_succ_cons, List.take_nil, Option.getD_some, map_c, map_n, List.length_cons, List.length_nil, Nat.reduceAdd, Nat.reduceSub, Nat.reduceLeDiff, Nat.reduceEqDiff, Nat.zero_add, List.cons_append, List.nil_append, if_true, if_false, Bool.false_eq_true]
  refine CallK.of (s35 hu hP a b) ?_
  simp (maxSteps := 4000000) -implicitDefEqProofs -dsimp (disch := omega) only [↓AW_ops, ↓AW_seq, ↓AOps_nil, ↓AOps_pu, ↓AOps_call, on_some, extK_same, ↓then_normal, pval, rd_S, put_S, chkd, isAdr, bgot, AV.cells?, partA, eq_self, List.replicate_succ, List.replicate_zero, List.set_cons_zero, List.set_cons_succ, List.getElem?_cons_zero, List.getElem?_cons_succ, List.drop_zero, List.drop_succ_cons, List.take_zero, List.take_succ_cons, List.take_nil, Option.getD_some, map_c, map_n, List.length_cons, List.length_nil, Nat.reduceAdd, Nat.reduceSub, Nat.reduceLeDiff, Nat.reduceEqDiff, Nat.zero_add, List.cons_append, List.nil_append, if_true, if_false, Bool.false_eq_true]
  obtain ⟨r, H, hc, hp, ht, hf⟩ := s36 hu hP a b
  refine CallK.of hc ?_
  have huH := hu.mono hp
  cases hw : wB Q rs a b with
  | false =>
    rw [hf hw]
    simp (maxSteps := 4000000) -implicitDefEqProofs -dsimp (disch := omega) only [↓AW_skip, ↓AW_ops, ↓AW_seq, ↓AW_cond, ↓AOps_nil, ↓AOps_pu, ↓AOps_call, ↓AOps_guard, on_some, extK_false, guardB_tt, guardB_ff, condB_t, condB_f, ↓then_normal, pval, rd_S, rd_C, put_S, beq_self_eq_true, eq_self, List.replicate_succ, List.replicate_zero, List.set_cons_zero, List.set_cons_succ, List.getElem?_cons_zero, List.getElem?_cons_succ, Option.getD_some, map_n, Nat.reduceSub, List.cons_append, List.nil_append, bin_eql, bin_neq, if_true, if_false, Bool.false_eq_true, Bool.not_true, Bool.not_false, decide_true, decide_false, not_true_eq_false, lenA]
    refine CallK.of (known H) ?_
    simp (maxSteps := 4000000) -implicitDefEqProofs -dsimp (disch := omega) only [↓AW_ret, ↓AOps_nil, ↓AOps_pu, on_some, extK_same, ↓then_normal, ↓then_ret, ↓Fin_ret, pval, rd_S, rd_C, put_S, resV, resL, eq_self, List.replicate_succ, List.replicate_zero, List.set_cons_zero, List.set_cons_succ, List.getElem?_cons_zero, List.getElem?_cons_succ, Option.getD_some, Nat.reduceSub, List.cons_append, List.nil_append, if_true]
    exact gc_val hp rfl
  | true =>
    obtain ⟨ks, hL, hl, f1, f2⟩ := ht hw
    obtain ⟨h0, _⟩ := wB_t hw
    simp (maxSteps := 4000000) -implicitDefEqProofs -dsimp (disch := omega) only [↓AW_skip, ↓AW_ops, ↓AW_seq, ↓AW_cond, ↓AOps_nil, ↓AOps_pu, ↓AOps_call, ↓AOps_guard, on_some, extK_false, guardB_ff, condB_f, ↓then_normal, pval, rd_S, rd_C, put_S, chkd, isAdr, bgot, AV.cells?, partA, beq_self_eq_true, eq_self, List.replicate_succ, List.replicate_zero, List.set_cons_zero, List.set_cons_succ, List.getElem?_cons_zero, List.getElem?_cons_succ, List.drop_zero, List.drop_succ_cons, List.take_zero, List.take_succ_cons, List.take_nil, Option.getD_some, map_c, map_n, List.length_cons, List.length_nil, Nat.reduceAdd, Nat.reduceSub, Nat.reduceLeDiff, Nat.reduceEqDiff, Nat.zero_add, List.cons_append, List.nil_append, bin_neq, if_true, if_false, Bool.false_eq_true, Bool.not_true, decide_false, not_true_eq_false]
    refine CallK.of (s31 huH hP hL (by omega) a b) ?_
    rw [f1, f2]
    simp (maxSteps := 4000000) -implicitDefEqProofs -dsimp (disch := omega) only [↓AW_ops, ↓AW_seq, ↓AOps_nil, ↓AOps_pu, ↓AOps_call, on_some, extK_same, ↓then_normal, pval, rd_S, put_S, chkd, isAdr, bgot, AV.cells?, partA, eq_self, List.replicate_succ, List.replicate_zero, List.set_cons_zero, List.set_cons_succ, List.getElem?_cons_zero, List.getElem?_cons_succ, List.drop_zero, List.drop_succ_cons, List.take_zero, List.take_succ_cons, List.take_nil, Option.getD_some, map_c, map_n, List.length_cons, List.length_nil, Nat.reduceAdd, Nat.reduceSub, Nat.reduceLeDiff, Nat.reduceEqDiff, Nat.zero_add, List.cons_append, List.nil_append, if_true, if_false, Bool.false_eq_true]
    refine CallK.of (s25 huH hP b a) ?_
    rw [w_symm.1, w_symm.2, hw, pE_symm (a := b) (b := a), h0]
    simp (maxSteps := 4000000) -implicitDefEqProofs -dsimp (disch := omega) only [↓AW_ops, ↓AW_seq, ↓AOps_nil, ↓AOps_pu, ↓AOps_call, ↓AOps_guard, on_some, extK_same, guardB_tt, ↓then_normal, pval, rd_S, rd_C, put_S, eq_self, List.replicate_succ, List.replicate_zero, List.set_cons_zero, List.set_cons_succ, List.getElem?_cons_zero, List.getElem?_cons_succ, Option.getD_some, map_n, Nat.reduceSub, List.cons_append, List.nil_append, bin_eql, if_true, decide_true]
    refine CallK.of (known H) ?_
    simp (maxSteps := 4000000) -implicitDefEqProofs -dsimp (disch := omega) only [↓AW_ret, ↓AOps_nil, ↓AOps_pu, on_some, extK_same, ↓then_normal, ↓Fin_ret, pval, rd_S, rd_C, put_S, resV, resL, eq_self, List.replicate_succ, List.replicate_zero, List.set_cons_zero, List.set_cons_succ, List.getElem?_cons_zero, List.getElem?_cons_succ, Option.getD_some, Nat.reduceSub, List.cons_append, List.nil_append, if_true]
    exact gc_val hp rfl
end
end Go.Proofs.Ytkgfcdpckfhknaa

