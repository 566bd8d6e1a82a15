/- What the law's proof rests on, part 4: for all that is said in each line. No conditions. -/
import Derived.Test.YtkgfcdpckfhknaaRows
import Derived.Test.YtkgfcdpckfhknaaChA
namespace Go.Proofs.Ytkgfcdpckfhknaa
open Go Go.Eng
def eb (b : Bool) : List AV := [.bool b]
def bl (P : Nat) (g : Int → Bool) : List AV := ((plc P).map g).flatMap eb
def updB (g : Int → Bool) (k : Int) (x : Bool) : Int → Bool := fun p => if p = k then x else g p
theorem bl_eq (P : Nat) (g : Int → Bool) : bl P g = (plc P).map (fun p => .bool (g p)) := by
  unfold bl
  induction plc P with
  | nil => rfl
  | cons x xs ih => rw [List.map_cons, List.flatMap_cons, ih]; rfl
theorem bl_len (P : Nat) (g : Int → Bool) : (bl P g).length = P := by rw [bl_eq, List.length_map, plc_len]
theorem bl_get {P : Nat} {g : Int → Bool} {k : Int} (h0 : 0 ≤ k) (h1 : k < P) : (bl P g)[k.toNat]? = some (.bool (g k)) := by
  rw [bl_eq, List.getElem?_map, plc_get (by omega)]
  show some (AV.bool (g ((k.toNat : Nat) : Int))) = _
  rw [Int.toNat_of_nonneg h0]
theorem bl_set {P : Nat} {g : Int → Bool} {k : Int} {x : Bool} (h0 : 0 ≤ k) (h1 : k < P) : (bl P g).set k.toNat (.bool x) = bl P (updB g k x) := by
  rw [bl_eq, bl_eq]
  apply List.ext_getElem?
  intro i
  rw [List.getElem?_set]
  by_cases hi : i < P
  · rw [List.getElem?_map, List.getElem?_map, plc_get hi]
    by_cases he : k.toNat = i
    · rw [if_pos he, if_pos (by rw [List.length_map, plc_len]; omega)]
      show _ = some (AV.bool (updB g k x (i : Int)))
      unfold updB
      rw [if_pos (by omega)]
    · rw [if_neg he]
      show some (AV.bool (g (i : Int))) = some (AV.bool (updB g k x (i : Int)))
      unfold updB
      rw [if_neg (by omega)]
  · have hn : ∀ f : Int → AV, ((plc P).map f)[i]? = none := fun f => List.getElem?_eq_none (by rw [List.length_map, plc_len]; omega)
    rw [hn, hn, if_neg (by omega)]
theorem bl_congr {P : Nat} {f g : Int → Bool} (h : ∀ p : Int, 0 ≤ p → p < P → f p = g p) : bl P f = bl P g := by
  rw [bl_eq, bl_eq]
  exact List.map_congr_left (fun p hp => by
    have := mem_plc.1 hp
    rw [h p this.1 this.2])
theorem bl_repl (P : Nat) : repl [.bool false] P = bl P (fun _ => false) := by
  rw [bl_eq]
  have : ∀ n, repl [.bool false] n = List.replicate n (AV.bool false) := by
    intro n
    induction n with
    | zero => rfl
    | succ n ih => rw [repl, ih]; rfl
  rw [this, List.map_const', plc_len]
theorem idxB {n P : Nat} {full : Bool} {k : Int} (h0 : 0 ≤ k) (h1 : k < P) : idxA 1 (.sl 1 n 0 P full) (I k) = some (.ptr n k.toNat) := by
  simp only [idxA]
  rw [if_pos ⟨h0, h1⟩, Nat.zero_add, Nat.mul_one]
theorem ldB {H : AHeap} {n P : Nat} {rw : Bool} {g : Int → Bool} (h : H[n]? = some (.cells rw (bl P g))) {k : Int} (h0 : 0 ≤ k) (h1 : k < P) : ldA 1 false (.ptr n k.toNat) H = some (.bool (g k)) := by
  unfold ldA
  simp only [h]
  unfold partA
  rw [if_pos (by rw [bl_len]; omega)]
  simp only [Bool.false_eq_true, if_false, if_true]
  exact bl_get h0 h1
theorem splice_one {l : List AV} {i : Nat} (h : i < l.length) (x : AV) : splice l i [x] = l.set i x := by
  unfold splice
  rw [List.set_eq_take_append_cons_drop, if_pos h]
  simp
theorem stB {H : AHeap} {n P : Nat} {g : Int → Bool} (h : H[n]? = some (.cells true (bl P g))) {k : Int} (h0 : 0 ≤ k) (h1 : k < P) (x : Bool) : stA 1 (.ptr n k.toNat) (.bool x) H = some (H.set n (.cells true (bl P (updB g k x)))) := by
  unfold stA
  simp only [cells_bool, h]
  rw [if_pos ⟨rfl, by rw [bl_len]; omega⟩, splice_one (by rw [bl_len]; omega), bl_set h0 h1]
def bst (g : Int → Bool) (r : Rd) : Int → Bool := if g r.1 = true ∨ g r.2.1 = true then (fun p => if p = r.2.1 then true else if p = r.1 then true else g p) else g
def brnd (S : List Rd) : Nat → (Int → Bool) → Int → Bool
  | 0, g => g
  | n + 1, g => S.foldl bst (brnd S n g)
theorem bst_mono {g : Int → Bool} {r : Rd} {p : Int} (h : g p = true) : bst g r p = true := by
  unfold bst
  split
  · simp only
    split
    · rfl
    · split
      · rfl
      · exact h
  · exact h
theorem bfold_mono : ∀ (L : List Rd) {g : Int → Bool} {p : Int}, g p = true → L.foldl bst g p = true
  | [], _, _, h => h
  | r :: L, g, p, h => bfold_mono L (bst_mono h)
theorem bfold_next : ∀ (L : List Rd) {g : Int → Bool} {p q : Int}, (∃ r ∈ L, (r.1 = p ∧ r.2.1 = q) ∨ (r.1 = q ∧ r.2.1 = p)) → g p = true → L.foldl bst g q = true
  | [], _, _, _, ⟨r, hr, _⟩, _ => by simp at hr
  | e :: L, g, p, q, ⟨r, hr, hpq⟩, h => by
    rcases List.mem_cons.1 hr with rfl | hr
    · refine bfold_mono L ?_
      unfold bst
      rcases hpq with ⟨rfl, rfl⟩ | ⟨rfl, rfl⟩
      · rw [if_pos (.inl h)]; simp
      · rw [if_pos (.inr h)]
        simp only
        split
        · rfl
        · simp
    · exact bfold_next L ⟨r, hr, hpq⟩ (bst_mono h)
theorem bfold_cn {S : List Rd} {s : Int} : ∀ (L : List Rd) {g : Int → Bool}, (∀ r ∈ L, r ∈ S) → (∀ p, g p = true → Cn S s p) → ∀ p, L.foldl bst g p = true → Cn S s p
  | [], _, _, h => h
  | r :: L, g, hL, h => by
    refine bfold_cn L (fun x hx => hL x (by simp [hx])) (fun p hp => ?_)
    have hab : Cn S r.1 r.2.1 := Cn.one (hL r (by simp))
    unfold bst at hp
    split at hp
    · rename_i hg
      simp only at hp
      have ha : Cn S s r.1 := by
        rcases hg with hg | hg
        · exact h _ hg
        · exact (h _ hg).trans hab.symm
      split at hp
      · rename_i e; rw [e]; exact ha.trans hab
      · split at hp
        · rename_i e; rw [e]; exact ha
        · exact h p hp
    · exact h p hp
theorem brnd_cn {P : Nat} {S : List Rd} (hS : ∀ e ∈ S, InP P e) {s : Int} (s0 : 0 ≤ s) (s1 : s < P) {p : Int} (p0 : 0 ≤ p) (p1 : p < P) : brnd S P (updB (fun _ => false) s true) p = decide (Cn S s p) := by
  have h0 : updB (fun _ => false) s true s = true := by unfold updB; rw [if_pos rfl]
  by_cases hc : Cn S s p
  · rw [decide_eq_true hc]
    exact saturate hS (X := fun t q => brnd S t (updB (fun _ => false) s true) q = true) (fun t q h => bfold_mono S h) (fun t q r _ _ h hadj => bfold_next S hadj h) (s := s) h0 s0 s1 hc
  · rw [decide_eq_false hc, ← Bool.not_eq_true]
    intro h
    refine hc ?_
    have : ∀ n p, brnd S n (updB (fun _ => false) s true) p = true → Cn S s p := by
      intro n
      induction n with
      | zero =>
        intro p hp
        have hp : updB (fun _ => false) s true p = true := hp
        unfold updB at hp
        split at hp
        · rename_i e; rw [e]; exact .refl _
        · cases hp
      | succ n ih => exact bfold_cn S (fun _ h => h) ih
    exact this P p h
section
variable {P : Nat} {rs : List Rd} {ks : List Int} {u v : AV} {A : AHeap}
/-- Where the walk's truth values stand. -/
noncomputable def rchH (A : AHeap) (P : Nat) (S : List Rd) (s : Int) : AHeap := A ++ [.cells true (bl P (fun p => decide (Cn S s p)))]
set_option maxHeartbeats 8000000 in
theorem s66 (hu : L3 A u rs) (hx : L1 A v ks) (hn : Net P rs) (hk : Nos rs ks) (hl : ks.length ≤ 1000000) {s : Int} (s0 : 0 ≤ s) (s1 : s < P) : ACalls Try.prog 66 [.agg [I P, u], I s, v] A (.sl 1 A.length 0 P true) (rchH A P (ks.map (rdx rs)) s) := by
  refine acalls hmix Try.func66 (by kernel_rfl) t66 3 rfl (by decide) ?_
  have hP7 := hn.p7
  have hP1 := hn.p1
  have hS : ∀ e ∈ ks.map (rdx rs), InP P e := inP_map (hk.inP hn)
  have hlim : (P : Int) ≤ (lim : Nat) := by simp only [lim]; omega
  have hP0 : (0 : Int) ≤ P := by omega
  dsimp only [m66]
  simp (maxSteps := 4000000) -implicitDefEqProofs -dsimp (disch := omega) only [↓AW_ops, ↓AW_seq, ↓AW_block, ↓AOps_nil, ↓AOps_pu, ↓AOps_ha, on_some, extK_false, extK_app, ↓then_normal, pval, hval_st, hval_mks, rd_S, rd_C, put_S, putS_none, ↓AW_toLoop, chkd, isAdr, bgot, cells_agg, partA, beq_self_eq_true, eq_self, List.replicate_succ, List.replicate_zero, List.set_cons_zero, List.set_cons_succ, List.getElem?_cons_zero, List.getElem?_cons_succ, List.drop_zero, List.take_zero, List.take_succ_cons, Option.getD_some, Option.map_some, List.length_cons, List.length_nil, Nat.reduceAdd, Nat.reduceSub, Nat.reduceLeDiff, Nat.zero_add, List.cons_append, List.nil_append, if_true, if_false, Bool.false_eq_true, and_true, hP0, bl_repl, Int.toNat_natCast, hlim, Int.le_refl, idxB, stB (mp_new A (.cells true (bl P (fun _ => false)))), mp_set]
  refine LoopK.by 58 (fun t : Nat => t ≤ P) (fun t => [(2, v), (3, .agg [I P, u]), (7, .sl 1 A.length 0 P true), (8, I t)]) (fun t => A ++ [.cells true (bl P (brnd (ks.map (rdx rs)) t (updB (fun _ => false) s true)))]) (fun t => P - t) 0 (by omega) rfl (by simp [Has, rd_s]) rfl ?_
  intro t ht
  by_cases htl : t < P
  · have htl' : (t : Int) < P := by omega
    simp (maxSteps := 4000000) -implicitDefEqProofs -dsimp (disch := omega) only [↓AW_skip, ↓AW_ops, ↓AW_seq, ↓AW_cond, ↓AW_block, ↓AOps_nil, ↓AOps_pu, on_some, condB_t, ↓then_normal, pval, rd_S, rd_C, put_S, ↓AW_toLoop, chkd, isAdr, bgot, cells_agg, partA, eq_self, mk, List.foldl_cons, List.foldl_nil, List.replicate_succ, List.replicate_zero, List.set_cons_zero, List.set_cons_succ, List.getElem?_cons_zero, List.getElem?_cons_succ, List.drop_zero, List.take_zero, List.take_succ_cons, Option.getD_some, List.length_cons, List.length_nil, Nat.reduceAdd, Nat.reduceLeDiff, Nat.zero_add, bin_lss, if_true, if_false, Bool.false_eq_true, decide_true, htl']
    refine LoopK.by 58 (fun j : Nat => j ≤ ks.length) (fun j => [(2, v), (3, .agg [I P, u]), (7, .sl 1 A.length 0 P true), (8, I t), (9, I j)]) (fun j => A ++ [.cells true (bl P (((ks.map (rdx rs)).take j).foldl bst (brnd (ks.map (rdx rs)) t (updB (fun _ => false) s true))))]) (fun j => ks.length - j) 0 (by omega) rfl (by simp [Has, rd_s]) rfl ?_
    intro j hj
    generalize hg : ((ks.map (rdx rs)).take j).foldl bst (brnd (ks.map (rdx rs)) t (updB (fun _ => false) s true)) = g
    have hxm := hx.mono (pre_app A [.cells true (bl P g)])
    have hum := hu.mono (pre_app A [.cells true (bl P g)])
    by_cases hlt : j < ks.length
    · obtain ⟨z, hz⟩ : ∃ z, ks[j]? = some z := ⟨_, List.getElem?_eq_getElem hlt⟩
      have hlt' : (j : Int) < ks.length := by omega
      obtain ⟨k0, k1⟩ := hk z (List.mem_of_getElem? hz)
      obtain ⟨hr, _⟩ := rdx_at k0 k1
      obtain ⟨⟨a0, a1⟩, ⟨b0, b1⟩⟩ := hn.inP k0 k1
      have hri := hum.idxI (k := .i64) k0 (show z < (rs.length : Int) by omega)
      have hld1 := ldB (mp_new A (.cells true (bl P g))) a0 a1
      have hld2 := ldB (mp_new A (.cells true (bl P g))) b0 b1
      have hst1 := stB (mp_new A (.cells true (bl P g))) a0 a1 true
      rw [mp_set] at hst1
      have hst2 := stB (mp_new A (.cells true (bl P (updB g (rdx rs z).1 true)))) b0 b1 true
      rw [mp_set] at hst2
      have done : ∀ g', g' = bst g (rdx rs z) → (∃ y, y ≤ ks.length ∧ A ++ [AObj.cells true (bl P g')] = A ++ [AObj.cells true (bl P (((ks.map (rdx rs)).take y).foldl bst (brnd (ks.map (rdx rs)) t (updB (fun _ => false) s true))))] ∧ y = j + 1) := by
        rintro g' rfl
        refine ⟨j + 1, hlt, ?_, rfl⟩
        rw [map_take_snoc _ hz, List.foldl_append, hg]
        rfl
      by_cases ga : g (rdx rs z).1 = true
      · obtain ⟨y, y1, y2, y3⟩ := done (updB (updB g (rdx rs z).1 true) (rdx rs z).2.1 true) (by unfold bst; rw [if_pos (.inl ga)]; rfl)
        simp (maxSteps := 4000000) -implicitDefEqProofs -dsimp (disch := omega) only [↓AW_skip, ↓AW_ops, ↓AW_seq, ↓AW_cond, ↓AW_block, ↓AOps_nil, ↓AOps_pu, ↓AOps_ld, ↓AOps_ha, ↓AOps_guard, on_some, extK_false, guardB_tf, skipS_some, condB_t, ↓then_normal, ↓inBlock_normal, pval, lval, hval_st, rd_S, rd_C, put_S, putS_none, chkd, isAdr, bput, bgot, cells_agg, splice, partA, eq_self, mk, List.foldl_cons, List.foldl_nil, List.replicate_succ, List.replicate_zero, List.set_cons_zero, List.set_cons_succ, List.getElem?_cons_zero, List.getElem?_cons_succ, List.drop_zero, List.drop_succ_cons, List.drop_nil, List.take_zero, List.take_succ_cons, List.take_nil, Option.getD_some, Option.map_some, List.length_cons, List.length_nil, Nat.reduceAdd, Nat.reduceLeDiff, Nat.reduceEqDiff, Nat.zero_add, List.nil_append, List.append_nil, bin_add, bin_lss, w64, if_true, if_false, Bool.false_eq_true, decide_true, Go.Eng.e1, true_and, ne_eq, not_true_eq_false, hlt', hxm.len, hxm.idx hlt, hxm.ld0 hz 1 false (by decide), hri, hum.ld0 hr 3 true (by decide), e3, idxB, hld1, ga, hst1, hst2]
        exact ⟨y, y1, by simp [Has, rd_s, y3], y2, by omega⟩
      · have ga' : g (rdx rs z).1 = false := by simpa using ga
        by_cases gb : g (rdx rs z).2.1 = true
        · obtain ⟨y, y1, y2, y3⟩ := done (updB (updB g (rdx rs z).1 true) (rdx rs z).2.1 true) (by unfold bst; rw [if_pos (.inr gb)]; rfl)
          simp (maxSteps := 4000000) -implicitDefEqProofs -dsimp (disch := omega) only [↓AW_skip, ↓AW_ops, ↓AW_seq, ↓AW_cond, ↓AW_block, ↓AOps_nil, ↓AOps_pu, ↓AOps_ld, ↓AOps_ha, ↓AOps_guard, on_some, extK_false, guardB_ff, condB_t, ↓then_normal, ↓inBlock_normal, pval, lval, hval_st, rd_S, rd_C, put_S, putS_none, chkd, isAdr, bput, bgot, cells_agg, splice, partA, eq_self, mk, List.foldl_cons, List.foldl_nil, List.replicate_succ, List.replicate_zero, List.set_cons_zero, List.set_cons_succ, List.getElem?_cons_zero, List.getElem?_cons_succ, List.drop_zero, List.drop_succ_cons, List.drop_nil, List.take_zero, List.take_succ_cons, List.take_nil, Option.getD_some, Option.map_some, List.length_cons, List.length_nil, Nat.reduceAdd, Nat.reduceLeDiff, Nat.reduceEqDiff, Nat.zero_add, List.nil_append, List.append_nil, bin_add, bin_lss, w64, if_true, if_false, Bool.false_eq_true, decide_true, Go.Eng.e1, true_and, ne_eq, not_true_eq_false, hlt', hxm.len, hxm.idx hlt, hxm.ld0 hz 1 false (by decide), hri, hum.ld0 hr 3 true (by decide), e3, idxB, hld1, hld2, ga', gb, hst1, hst2]
          exact ⟨y, y1, by simp [Has, rd_s, y3], y2, by omega⟩
        · have gb' : g (rdx rs z).2.1 = false := by simpa using gb
          obtain ⟨y, y1, y2, y3⟩ := done g (by unfold bst; rw [if_neg (by rw [ga', gb']; simp)])
          simp (maxSteps := 4000000) -implicitDefEqProofs -dsimp (disch := omega) only [↓AW_skip, ↓AW_ops, ↓AW_seq, ↓AW_cond, ↓AW_block, ↓AOps_nil, ↓AOps_pu, ↓AOps_ld, ↓AOps_guard, on_some, guardB_ff, condB_t, condB_f, ↓then_normal, ↓inBlock_normal, pval, lval, rd_S, rd_C, put_S, chkd, isAdr, bput, bgot, cells_agg, splice, partA, eq_self, mk, List.foldl_cons, List.foldl_nil, List.replicate_succ, List.replicate_zero, List.set_cons_zero, List.set_cons_succ, List.getElem?_cons_zero, List.getElem?_cons_succ, List.drop_zero, List.drop_succ_cons, List.drop_nil, List.take_zero, List.take_succ_cons, List.take_nil, Option.getD_some, List.length_cons, List.length_nil, Nat.reduceAdd, Nat.reduceLeDiff, Nat.reduceEqDiff, Nat.zero_add, List.nil_append, List.append_nil, bin_add, bin_lss, w64, if_true, if_false, Bool.false_eq_true, decide_true, Go.Eng.e1, true_and, ne_eq, not_true_eq_false, hlt', hxm.len, hxm.idx hlt, hxm.ld0 hz 1 false (by decide), hri, hum.ld0 hr 3 true (by decide), e3, idxB, hld1, hld2, ga', gb']
          exact ⟨y, y1, by simp [Has, rd_s, y3], y2, by omega⟩
    · have hlt' : ¬ ((j : Int) < ks.length) := by omega
      simp (maxSteps := 4000000) -implicitDefEqProofs -dsimp (disch := omega) only [↓AW_ops, ↓AW_seq, ↓AW_cond, ↓AW_exit, ↓AW_ret, ↓AOps_nil, ↓AOps_pu, on_some, condB_f, ↓then_normal, ↓then_exit, ↓inBlock_normal, ↓inBlock_exit, ↓Fin_ret, pval, rd_S, rd_C, put_S, resV, resL, eq_self, mk, List.foldl_cons, List.foldl_nil, List.replicate_succ, List.replicate_zero, List.set_cons_zero, List.set_cons_succ, List.getElem?_cons_zero, List.getElem?_cons_succ, Option.getD_some, List.length_cons, List.length_nil, Nat.reduceAdd, Nat.reduceEqDiff, Nat.zero_add, bin_add, bin_lss, w64, if_true, if_false, decide_false, true_and, reduceCtorEq, hlt', hxm.len]
      refine ⟨t + 1, htl, by simp [Has, rd_s], ?_⟩
      rw [List.take_of_length_le (by simp; omega)] at hg
      rw [← hg]
      exact ⟨rfl, by omega⟩
  · have htl' : ¬ (t : Int) < P := by omega
    have hti : t = P := by omega
    subst hti
    simp (maxSteps := 4000000) -implicitDefEqProofs -dsimp (disch := omega) only [↓AW_ops, ↓AW_seq, ↓AW_cond, ↓AW_exit, ↓AW_ret, ↓AOps_nil, ↓AOps_pu, on_some, condB_f, ↓then_normal, ↓then_exit, ↓inBlock_exit, ↓Fin_ret, pval, rd_S, put_S, resV, resL, chkd, isAdr, bgot, cells_agg, partA, eq_self, mk, List.foldl_cons, List.foldl_nil, List.replicate_succ, List.replicate_zero, List.set_cons_zero, List.set_cons_succ, List.getElem?_cons_zero, List.getElem?_cons_succ, List.drop_zero, List.take_zero, List.take_succ_cons, Option.getD_some, List.length_cons, List.length_nil, Nat.reduceAdd, Nat.reduceLeDiff, Nat.zero_add, bin_lss, if_true, if_false, Bool.false_eq_true, decide_false, htl']
    refine gc_same_all rfl ?_
    unfold rchH
    rw [bl_congr (fun p p0 p1 => brnd_cn hS s0 s1 p0 p1)]
end
end Go.Proofs.Ytkgfcdpckfhknaa

namespace Go.Proofs.Ytkgfcdpckfhknaa
open Go Go.Eng
/-- A road's cost. -/
def wct (rs : List Rd) (k : Int) : Int := (rdx rs k).2.2
theorem Net.nat {P : Int} {rs : List Rd} (h : Net P rs) : ∃ p : Nat, P = p := ⟨P.toNat, by have := h.p1; omega⟩
section
variable {P : Nat} {rs : List Rd} {ks : List Int} {u v : AV} {A : AHeap}
end
section
variable {Q : Int} {rs : List Rd} {ks : List Int} {u v : AV} {A : AHeap}
theorem s51 (hx : L1 A v ks) (hl : ks.length ≤ 1000000) (p : Int) : ACalls Try.prog 51 [v, I p] A (B (decide (p ∈ ks))) A := by
  refine acalls hmix Try.func51 (by kernel_rfl) t51 2 rfl (by decide) ?_
  dsimp only [m51]
  simp (maxSteps := 4000000) -implicitDefEqProofs -dsimp (disch := omega) only [↓AW_ops, ↓AW_seq, ↓AW_block, ↓AOps_nil, ↓AOps_pu, on_some, ↓then_normal, pval, rd_C, put_S, ↓AW_toLoop, List.replicate_succ, List.replicate_zero, List.set_cons_zero, List.set_cons_succ, Nat.reduceSub, List.cons_append, List.nil_append]
  refine LoopK.by 18 (fun i : Nat => i ≤ ks.length ∧ ∀ x ∈ ks.take i, ¬ x = p) (fun i => [(0, v), (1, I p), (5, I i)]) (fun _ => A) (fun i => ks.length - i) 0 ⟨by omega, by simp⟩ rfl (by simp [Has, rd_s]) rfl ?_
  rintro i ⟨hi, he⟩
  by_cases hlt : i < ks.length
  · obtain ⟨z, hz⟩ : ∃ z, ks[i]? = some z := ⟨_, List.getElem?_eq_getElem hlt⟩
    have hlt' : (i : Int) < ks.length := by omega
    by_cases h : z = p
    · simp (maxSteps := 4000000) -implicitDefEqProofs -dsimp (disch := omega) only [↓AW_skip, ↓AW_ops, ↓AW_seq, ↓AW_cond, ↓AW_block, ↓AW_ret, ↓AOps_nil, ↓AOps_pu, ↓AOps_ld, on_some, condB_t, ↓then_normal, ↓then_ret, ↓inBlock_ret, ↓Fin_ret, pval, lval, rd_S, rd_C, put_S, resV, resL, partA, eq_self, mk, List.foldl_cons, List.foldl_nil, List.replicate_succ, List.replicate_zero, List.set_cons_zero, List.set_cons_succ, List.getElem?_cons_zero, List.getElem?_cons_succ, List.drop_zero, List.take_succ_cons, List.take_nil, Option.getD_some, List.length_cons, List.length_nil, Nat.reduceLeDiff, Nat.zero_add, bin_eql, bin_lss, if_true, if_false, Bool.false_eq_true, decide_true, Go.Eng.e1, hlt', hx.len, hx.idx hlt, hx.ld0 hz 1 false (by decide), h]
      exact gc_same (by rw [decide_eq_true (h ▸ List.mem_of_getElem? hz)])
    · simp (maxSteps := 4000000) -implicitDefEqProofs -dsimp (disch := omega) only [↓AW_skip, ↓AW_ops, ↓AW_seq, ↓AW_cond, ↓AW_block, ↓AOps_nil, ↓AOps_pu, ↓AOps_ld, on_some, condB_t, condB_f, ↓then_normal, ↓inBlock_normal, pval, lval, rd_S, rd_C, put_S, partA, eq_self, mk, List.foldl_cons, List.foldl_nil, List.replicate_succ, List.replicate_zero, List.set_cons_zero, List.set_cons_succ, List.getElem?_cons_zero, List.getElem?_cons_succ, List.drop_zero, List.take_succ_cons, List.take_nil, Option.getD_some, List.length_cons, List.length_nil, Nat.reduceAdd, Nat.reduceLeDiff, Nat.zero_add, bin_add, bin_eql, bin_lss, w64, if_true, if_false, Bool.false_eq_true, decide_true, decide_false, Go.Eng.e1, true_and, hlt', hx.len, hx.idx hlt, hx.ld0 hz 1 false (by decide), h]
      exact ⟨i + 1, ⟨hlt, all_take he hz h⟩, by simp [Has, rd_s], by omega⟩
  · have hlt' : ¬ ((i : Int) < ks.length) := by omega
    simp (maxSteps := 4000000) -implicitDefEqProofs -dsimp (disch := omega) only [↓AW_ops, ↓AW_seq, ↓AW_cond, ↓AW_exit, ↓AW_ret, ↓AOps_nil, ↓AOps_pu, on_some, condB_f, ↓then_normal, ↓then_exit, ↓inBlock_exit, ↓Fin_ret, pval, rd_S, rd_C, put_S, resV, resL, eq_self, mk, List.foldl_cons, List.foldl_nil, List.replicate_succ, List.replicate_zero, List.set_cons_zero, List.set_cons_succ, List.getElem?_cons_zero, List.getElem?_cons_succ, Option.getD_some, bin_lss, if_true, decide_false, hx.len, hlt']
    rw [List.take_of_length_le (by omega)] at he
    exact gc_same (by rw [decide_eq_false (fun hh => he p hh rfl)])
theorem s17 (hu : L3 A u rs) (P : Int) : ACalls Try.prog 17 [.agg [I P, u]] A (B (decide ((100 : Int) < rs.length))) A := by
  refine acalls hmix Try.func17 (by kernel_rfl) t17 1 rfl (by decide) ?_
  dsimp only [m17]
  simp (maxSteps := 4000000) -implicitDefEqProofs -dsimp (disch := omega) only [↓AW_ops, ↓AW_seq, ↓AW_ret, ↓AOps_nil, ↓AOps_pu, on_some, ↓then_normal, ↓Fin_ret, pval, rd_S, rd_C, put_S, resV, resL, chkd, isAdr, bgot, AV.cells?, partA, eq_self, List.replicate_succ, List.replicate_zero, List.set_cons_zero, List.set_cons_succ, List.getElem?_cons_zero, List.getElem?_cons_succ, List.drop_zero, List.drop_succ_cons, List.take_succ_cons, List.take_nil, Option.getD_some, List.length_cons, List.length_nil, Nat.reduceAdd, Nat.reduceSub, Nat.reduceLeDiff, Nat.zero_add, List.cons_append, List.nil_append, bin_gtr, if_true, if_false, Bool.false_eq_true, hu.len]
  exact gc_same rfl
end
end Go.Proofs.Ytkgfcdpckfhknaa

namespace Go.Proofs.Ytkgfcdpckfhknaa
open Go Go.Eng
/-- The first elements are in order. -/
def SU (w : Int → Int) (zs : List Int) (i : Nat) : Prop := ∀ (p q : Nat) (a b : Int), p < q → q < i → zs[p]? = some a → zs[q]? = some b → w a ≤ w b
theorem SU.one (w : Int → Int) (zs : List Int) : SU w zs 1 := fun p q a b h k => by omega
theorem SU.zero (w : Int → Int) (zs : List Int) : SU w zs 0 := fun p q a b h k => by omega
theorem SU.all {w : Int → Int} {zs : List Int} (h : SU w zs zs.length) : zs.Pairwise (fun a b => w a ≤ w b) := by
  rw [List.pairwise_iff_getElem]
  intro i j hi hj hij
  exact h i j _ _ hij hj (List.getElem?_eq_getElem hi) (List.getElem?_eq_getElem hj)
/-- An element that goes down to its place. -/
structure IS (w : Int → Int) (xs zs : List Int) (i j : Nat) : Prop where
  perm : zs.Perm xs
  a : ∀ (p q : Nat) (a b : Int), p < q → q ≤ i → p ≠ j → q ≠ j → zs[p]? = some a → zs[q]? = some b → w a ≤ w b
  b : ∀ (q : Nat) (x y : Int), j < q → q ≤ i → zs[j]? = some x → zs[q]? = some y → w x ≤ w y
theorem IS.zero {w : Int → Int} {xs zs : List Int} {i : Nat} (h : IS w xs zs i 0) : SU w zs (i + 1) := by
  intro p q a b h1 h2 h3 h4
  by_cases hp : p = 0
  · subst hp
    exact h.b q a b h1 (by omega) h3 h4
  · exact h.a p q a b h1 (by omega) hp (by omega) h3 h4
section
variable {P : Nat} {rs : List Rd} {ks : List Int} {u v : AV} {A : AHeap}
/-- The numbers of all roads. -/
abbrev nums (rs : List Rd) : List Int := plc rs.length
/-- The numbers of all roads, the cheapest first. -/
structure Ord (rs : List Rd) (L : List Int) : Prop where
  p : L.Perm (nums rs)
  s : L.Pairwise (fun a b => wct rs a ≤ wct rs b)
theorem Ord.mem {L : List Int} (h : Ord rs L) {k : Int} : k ∈ L ↔ 0 ≤ k ∧ k ≤ (rs.length : Int) - 1 := by
  rw [h.p.mem_iff, mem_plc]
  omega
theorem Ord.nodup {L : List Int} (h : Ord rs L) : L.Nodup := h.p.nodup_iff.2 (plc_nodup _)
theorem Ord.len {L : List Int} (h : Ord rs L) : L.length = rs.length := by rw [h.p.length_eq, plc_len]
end
end Go.Proofs.Ytkgfcdpckfhknaa

namespace Go.Proofs.Ytkgfcdpckfhknaa
open Go Go.Eng
section
variable {P : Nat} {rs : List Rd} {ks : List Int} {u v : AV} {A : AHeap}
theorem Nos.take {L : List Int} (h : Nos rs L) (i : Nat) : Nos rs (L.take i) := fun k hk => h k (List.mem_of_mem_take hk)
end
end Go.Proofs.Ytkgfcdpckfhknaa

namespace Go.Proofs.Ytkgfcdpckfhknaa
open Go Go.Eng
def bset (m s : Nat) : List Int := (plc m).filter (fun i => s.testBit i.toNat)
section
variable {P : Nat} {rs : List Rd}
/-- All places can be joined. -/
def Jbl (P : Nat) (rs : List Rd) : Prop := comps P ((nums rs).map (rdx rs)) = 1
end
end Go.Proofs.Ytkgfcdpckfhknaa

namespace Go.Proofs.Ytkgfcdpckfhknaa
open Go Go.Eng
section
variable {P : Nat} {rs : List Rd} {a b : Int}
/-- Roads of a list up to a cost join two places. -/
def cnT (rs : List Rd) (M : List Int) (t a b : Int) : Prop := Cn ((upTo (wct rs) M t).map (rdx rs)) a b
noncomputable instance cnTDec (rs : List Rd) (M : List Int) (t a b : Int) : Decidable (cnT rs M t a b) := Classical.propDecidable _
/-- The smallest cost up to which roads of a list join two places. -/
noncomputable def bt (rs : List Rd) (M : List Int) (a b : Int) : Option Int := if a = b then some 0 else ((List.range 100).find? (fun c : Nat => decide (cnT rs M (c : Int) a b))).map Int.ofNat
end
end Go.Proofs.Ytkgfcdpckfhknaa

namespace Go.Proofs.Ytkgfcdpckfhknaa
open Go Go.Eng
section
variable {P : Nat} {rs : List Rd} {ks : List Int} {u v : AV} {A : AHeap}
end
section
variable {Q : Int} {rs : List Rd} {u : AV} {A : AHeap}
end
end Go.Proofs.Ytkgfcdpckfhknaa

namespace Go.Proofs.Ytkgfcdpckfhknaa
open Go Go.Eng
/-- Rows of another list, put together anew. -/
structure Sel (A H : AHeap) (v : AV) (ws : List (AV × List Int)) : Prop where
  acc : AccL 1 e0 A H v ws
  inn : ∀ x ∈ ws, L1 A x.1 x.2
theorem Sel.nil {A H : AHeap} (h : A <+: H) : Sel A H .nilS [] := ⟨AccL.nil h, by simp⟩
theorem Sel.push {A H : AHeap} {v : AV} {ws : List (AV × List Int)} (h : Sel A H v ws) {x : AV × List Int} (hx : L1 A x.1 x.2) (hl : ws.length + 1 ≤ lim) :
    ∃ v' H2, appA 1 (H ++ [.cells true [x.1]]) v (.sl 1 H.length 0 1 true) = some (v', H2) ∧ Sel A H2 v' (ws ++ [x]) ∧ v'.cells? = some [v'] := by
  obtain ⟨v', H2, happ, hacc⟩ := h.acc.push e0_len x hl
  refine ⟨v', H2, happ, ⟨hacc, fun y hy => ?_⟩, Ls_cells (AccL_ls hacc e0_len)⟩
  rcases List.mem_append.1 hy with hy | hy
  · exact h.inn y hy
  · have : y = x := by simpa using hy
    rw [this]; exact hx
section
variable {P : Nat} {rs : List Rd} {ks : List Int} {u v : AV} {A : AHeap}
noncomputable instance jblDec (P : Nat) (rs : List Rd) : Decidable (Jbl P rs) := by unfold Jbl; infer_instance
end
section
variable {Q : Int} {rs : List Rd} {ks : List Int} {u v : AV} {A : AHeap}
end
section
variable {P : Nat} {rs : List Rd} {ks : List Int} {u v : AV} {A : AHeap}
end
end Go.Proofs.Ytkgfcdpckfhknaa

namespace Go.Proofs.Ytkgfcdpckfhknaa
open Go Go.Eng
section
variable {P : Nat} {rs : List Rd} {ks : List Int} {u v : AV} {A : AHeap}
/-- The roads whose cost is at most so much, but one. -/
def chB (rs : List Rd) (c k : Int) : List Int := (nums rs).filter (fun i => decide (¬ i = k ∧ wct rs i ≤ c))
theorem c_cheap (hu : L3 A u rs) (hn : Net P rs) (c k : Int) : ∃ r H, ACalls Try.prog 67 [.agg [I P, u], I c, I k] A r H ∧ A <+: H ∧ L1 H r (chB rs c k) := by
  refine acallsR hmix Try.func67 (by kernel_rfl) t67 _ 3 rfl (by decide) ?_
  have hl14 := hn.l
  dsimp only [m67]
  simp (maxSteps := 4000000) -implicitDefEqProofs -dsimp (disch := omega) only [↓AW_ops, ↓AW_seq, ↓AW_block, ↓AOps_nil, ↓AOps_pu, on_some, ↓then_normal, pval, rd_S, rd_C, put_S, ↓AW_toLoop, cells_agg, List.replicate_succ, List.replicate_zero, List.set_cons_zero, List.set_cons_succ, List.getElem?_cons_zero, Option.getD_some, Nat.reduceSub, List.cons_append, List.nil_append]
  refine LoopK.by 34 (fun x : Nat × AV × AHeap => x.1 ≤ rs.length ∧ AccL 1 e1 A x.2.2 x.2.1 ((plc x.1).filter (fun i => decide (¬ i = k ∧ wct rs i ≤ c)))) (fun x => [(1, I c), (2, I k), (3, .agg [I P, u]), (7, x.2.1), (8, I x.1)]) (fun x => x.2.2) (fun x => rs.length - x.1) (0, .nilS, A) ⟨by simp only; omega, AccL.nil (List.prefix_refl _)⟩ rfl (by simp [Has, rd_s]) rfl ?_
  rintro ⟨i, y, H⟩ ⟨hi, hac⟩
  simp only at hi hac
  have huH := hu.mono hac.1
  by_cases hlt : i < rs.length
  · have hlt' : (i : Int) < rs.length := by omega
    obtain ⟨hr, _⟩ := rdx_at (rs := rs) (k := (i : Int)) (by omega) (by omega)
    rw [Int.toNat_natCast] at hr
    have hwe : (rdx rs (i : Int)).2.2 = wct rs (i : Int) := rfl
    have hfl := filt_len (fun i => decide (¬ i = k ∧ wct rs i ≤ c)) i
    by_cases h1 : (i : Int) = k
    · subst h1
      simp (maxSteps := 4000000) -implicitDefEqProofs -dsimp (disch := omega) only [↓AW_skip, ↓AW_ops, ↓AW_seq, ↓AW_cond, ↓AW_block, ↓AOps_nil, ↓AOps_pu, ↓AOps_guard, on_some, guardB_ft, skipS_some, condB_t, condB_f, ↓then_normal, ↓inBlock_normal, pval, rd_S, rd_C, put_S, chkd, isAdr, bgot, cells_agg, partA, eq_self, mk, List.foldl_cons, List.foldl_nil, List.replicate_succ, List.replicate_zero, List.set_cons_zero, List.set_cons_succ, List.getElem?_cons_zero, List.getElem?_cons_succ, List.drop_zero, List.drop_succ_cons, List.take_succ_cons, List.take_nil, Option.getD_some, List.length_cons, List.length_nil, Nat.reduceAdd, Nat.reduceLeDiff, Nat.zero_add, bin_add, bin_neq, bin_lss, w64, if_true, if_false, Bool.false_eq_true, decide_true, decide_false, true_and, not_true_eq_false, hlt', huH.len]
      refine ⟨(i + 1, y, H), ⟨hlt, ?_⟩, by simp [Has, rd_s], rfl, by simp only; omega⟩
      simp only
      rw [filt_succ, if_neg (by simp), List.append_nil]
      exact hac
    · by_cases h2 : wct rs (i : Int) ≤ c
      · obtain ⟨v', H2, happ, hacc, _, n, len, rfl, _⟩ := AccL_push2 hac e1_len (by omega) (i : Int) (by simp only [lim]; omega)
        simp only [Go.Eng.e1] at happ
        simp (maxSteps := 4000000) -implicitDefEqProofs -dsimp (disch := omega) only [↓AW_skip, ↓AW_ops, ↓AW_seq, ↓AW_cond, ↓AW_block, ↓AOps_nil, ↓AOps_pu, ↓AOps_ld, ↓AOps_ha, ↓AOps_guard, on_some, extK_false, extK_app, guardB_tt, condB_t, ↓then_normal, ↓inBlock_normal, pval, lval, hval_blds, hval_app, rd_S, rd_C, put_S, chkd, isAdr, bgot, cells_agg, cells_int, splice, partA, fillA, repl, eq_self, mk, List.foldl_cons, List.foldl_nil, List.replicate_succ, List.replicate_zero, List.set_cons_zero, List.set_cons_succ, List.getElem?_cons_zero, List.getElem?_cons_succ, List.drop_zero, List.drop_succ_cons, List.drop_nil, List.take_zero, List.take_succ_cons, List.take_nil, Option.getD_some, map_c, map_n, List.length_cons, List.length_nil, Nat.reduceAdd, Nat.reduceLeDiff, Nat.zero_add, List.nil_append, List.append_nil, bin_add, bin_neq, bin_lss, bin_leq, w64, if_true, if_false, Bool.false_eq_true, decide_true, true_and, and_true, not_false_eq_true, hlt', huH.len, h1, huH.idx hlt, huH.ld hr 1 2 false (by decide), e3, hwe, h2, happ, List.replicate_zero, repl]
        refine ⟨(i + 1, .sl 1 n 0 len false, H2), ⟨hlt, ?_⟩, by simp [Has, rd_s], rfl, by simp only; omega⟩
        simp only
        rw [filt_succ, if_pos (by simp [h1, h2])]
        exact hacc
      · simp (maxSteps := 4000000) -implicitDefEqProofs -dsimp (disch := omega) only [↓AW_skip, ↓AW_ops, ↓AW_seq, ↓AW_cond, ↓AW_block, ↓AOps_nil, ↓AOps_pu, ↓AOps_ld, ↓AOps_guard, on_some, guardB_tt, condB_t, condB_f, ↓then_normal, ↓inBlock_normal, pval, lval, rd_S, rd_C, put_S, chkd, isAdr, bgot, cells_agg, partA, eq_self, mk, List.foldl_cons, List.foldl_nil, List.replicate_succ, List.replicate_zero, List.set_cons_zero, List.set_cons_succ, List.getElem?_cons_zero, List.getElem?_cons_succ, List.drop_zero, List.drop_succ_cons, List.take_succ_cons, List.take_nil, Option.getD_some, List.length_cons, List.length_nil, Nat.reduceAdd, Nat.reduceLeDiff, Nat.zero_add, bin_add, bin_neq, bin_lss, bin_leq, w64, if_true, if_false, Bool.false_eq_true, decide_true, decide_false, true_and, not_false_eq_true, hlt', huH.len, h1, huH.idx hlt, huH.ld hr 1 2 false (by decide), e3, hwe, h2]
        refine ⟨(i + 1, y, H), ⟨hlt, ?_⟩, by simp [Has, rd_s], rfl, by simp only; omega⟩
        simp only
        rw [filt_succ, if_neg (by simp [h1, h2]), List.append_nil]
        exact hac
  · have hlt' : ¬ (i : Int) < rs.length := by omega
    have hie : i = rs.length := by omega
    subst hie
    simp (maxSteps := 4000000) -implicitDefEqProofs -dsimp (disch := omega) only [↓AW_ops, ↓AW_seq, ↓AW_cond, ↓AW_exit, ↓AW_ret, ↓AOps_nil, ↓AOps_pu, on_some, condB_f, ↓then_normal, ↓then_exit, ↓inBlock_exit, ↓FinR_ret, pval, rd_S, put_S, resV, resL, chkd, isAdr, bgot, cells_agg, partA, eq_self, mk, List.foldl_cons, List.foldl_nil, List.replicate_succ, List.replicate_zero, List.set_cons_zero, List.set_cons_succ, List.getElem?_cons_zero, List.getElem?_cons_succ, List.drop_zero, List.drop_succ_cons, List.take_succ_cons, List.take_nil, Option.getD_some, List.length_cons, List.length_nil, Nat.reduceAdd, Nat.reduceLeDiff, Nat.zero_add, bin_lss, if_true, if_false, Bool.false_eq_true, decide_false, hlt', huH.len]
    exact ⟨_, _, gc_all, hac.1, AccL_ls hac e1_len⟩
theorem chB_nos (c k : Int) : Nos rs (chB rs c k) := fun i hi => by
  have := mem_plc.1 (List.mem_filter.1 hi).1
  omega
theorem chB_cn {c k a b : Int} : Cn ((chB rs c k).map (rdx rs)) a b ↔ cnT rs ((nums rs).filter (fun i => decide (¬ i = k))) c a b := by
  unfold cnT
  refine ⟨map_sub (fun i hi => ?_), map_sub (fun i hi => ?_)⟩
  · rw [mem_upTo, List.mem_filter]
    have := List.mem_filter.1 hi
    simp only [decide_eq_true_eq] at this ⊢
    exact ⟨⟨this.1, this.2.1⟩, this.2.2⟩
  · rw [mem_upTo, List.mem_filter] at hi
    unfold chB
    rw [List.mem_filter]
    simp only [decide_eq_true_eq] at hi ⊢
    exact ⟨hi.1.1, hi.1.2, hi.2⟩
theorem nums_no {k : Int} (h : k < 0) : ∀ i, i ∈ (nums rs).filter (fun i => decide (¬ i = k)) ↔ i ∈ nums rs := fun i => by
  rw [List.mem_filter, mem_plc, decide_eq_true_eq]
  omega
end
section
variable {Q : Int} {rs : List Rd} {ks : List Int} {u v : AV} {A : AHeap} {a b : Int}
/-- The error of a net and two places. -/
def pE (Q : Int) (rs : List Rd) (a b : Int) : Int := if vE Q rs = 0 then (if (0 ≤ a ∧ a ≤ Q - 1) ∧ (0 ≤ b ∧ b ≤ Q - 1) then 0 else 4) else vE Q rs
theorem pE_v (h : ¬ vE Q rs = 0) : pE Q rs a b = vE Q rs := by unfold pE; rw [if_neg h]
theorem pE_4 (h : vE Q rs = 0) (h2 : ¬ ((0 ≤ a ∧ a ≤ Q - 1) ∧ (0 ≤ b ∧ b ≤ Q - 1))) : pE Q rs a b = 4 := by unfold pE; rw [if_pos h, if_neg h2]
theorem pE_0 : pE Q rs a b = 0 ↔ Net Q rs ∧ (0 ≤ a ∧ a ≤ Q - 1) ∧ (0 ≤ b ∧ b ≤ Q - 1) := by
  rw [← vE_0]
  unfold pE
  constructor
  · intro h
    split at h
    · rename_i h1
      split at h
      · rename_i h2; exact ⟨h1, h2⟩
      · cases h
    · rename_i h1; exact absurd h h1
  · rintro ⟨h1, h2⟩
    rw [if_pos h1, if_pos h2]
theorem L1_two (A : AHeap) (x y : Int) : L1 (A ++ [.cells true [I x, I y]]) (.sl 1 A.length 0 2 true) [x, y] := ⟨e1_len, by simp [slCells, cellsAt, e1]⟩
theorem notOf_2 {c x y : Int} : notOf c [x, y] = true ↔ ¬ ((0 ≤ x ∧ x ≤ c - 1) ∧ (0 ≤ y ∧ y ≤ c - 1)) := by
  unfold notOf
  simp only [List.any_cons, List.any_nil, Bool.or_false, Bool.or_eq_true, Bool.not_eq_true', decide_eq_false_iff_not]
  omega
theorem s72 (hu : L3 A u rs) (hP : W Q) (a b : Int) : ACalls Try.prog 72 [.agg [I Q, u], I a, I b] A (I (pE Q rs a b)) A := by
  refine acalls hmix Try.func72 (by kernel_rfl) t72 3 rfl (by decide) ?_
  dsimp only [m72]
  simp (maxSteps := 4000000) -implicitDefEqProofs -dsimp (disch := omega) only [↓AW_ops, ↓AW_seq, ↓AOps_nil, ↓AOps_pu, ↓AOps_call, on_some, ↓then_normal, pval, rd_S, rd_C, put_S, chkd, bgot, AV.cells?, partA, eq_self, List.replicate_succ, List.replicate_zero, List.set_cons_zero, List.set_cons_succ, List.getElem?_cons_zero, List.getElem?_cons_succ, List.drop_zero, List.take_succ_cons, List.take_nil, Option.getD_some, map_c, map_n, List.length_cons, List.length_nil, Nat.reduceAdd, Nat.reduceSub, Nat.reduceLeDiff, Nat.reduceEqDiff, Nat.zero_add, List.cons_append, List.nil_append, if_true, if_false]
  refine CallK.of (s28 hu hP) ?_
  by_cases h0 : vE Q rs = 0
  · have hn := vE_0.1 h0
    have := hn.p1
    have := hn.p7
    simp (maxSteps := 4000000) -implicitDefEqProofs -dsimp (disch := omega) only [↓AW_skip, ↓AW_ops, ↓AW_seq, ↓AW_cond, ↓AOps_nil, ↓AOps_pu, ↓AOps_ha, ↓AOps_call, on_some, extK_app, extK_same, condB_f, ↓then_normal, pval, hval, rd_S, rd_C, put_S, chkd, isAdr, bgot, AV.cells?, splice, partA, fillA, repl, eq_self, List.replicate_succ, List.replicate_zero, List.set_cons_zero, List.set_cons_succ, List.getElem?_cons_zero, List.getElem?_cons_succ, List.drop_zero, List.drop_succ_cons, List.drop_nil, List.take_zero, List.take_succ_cons, Option.getD_some, map_c, map_n, List.length_cons, List.length_nil, Nat.reduceAdd, Nat.reduceSub, Nat.reduceLeDiff, Nat.zero_add, List.cons_append, List.nil_append, List.append_nil, bin_neq, if_true, if_false, Bool.false_eq_true, decide_false, and_true, not_true_eq_false, h0, List.replicate_zero, repl]
    refine CallK.of (s58 (L1_two A a b) (by simp) (c := Q) (by omega)) ?_
    by_cases h1 : notOf Q [a, b] = true
    · rw [if_pos h1, pE_4 h0 (notOf_2.1 h1)]
      simp (maxSteps := 4000000) -implicitDefEqProofs -dsimp (disch := omega) only [↓AW_ret, ↓AOps_nil, ↓AOps_pu, on_some, extK_same, ↓then_normal, ↓Fin_ret, pval, rd_S, put_S, resV, resL, List.replicate_succ, List.replicate_zero, List.set_cons_zero, List.set_cons_succ, List.getElem?_cons_zero, List.getElem?_cons_succ, Option.getD_some, Nat.reduceSub, List.cons_append, List.nil_append]
      exact gc_val (pre_app _ _) rfl
    · have h2 : (0 ≤ a ∧ a ≤ Q - 1) ∧ (0 ≤ b ∧ b ≤ Q - 1) := Classical.byContradiction (fun h => h1 (notOf_2.2 h))
      rw [if_neg h1, pE_0.2 ⟨hn, h2⟩]
      simp (maxSteps := 4000000) -implicitDefEqProofs -dsimp (disch := omega) only [↓AW_ret, ↓AOps_nil, ↓AOps_pu, on_some, extK_same, ↓then_normal, ↓Fin_ret, pval, rd_S, put_S, resV, resL, List.replicate_succ, List.replicate_zero, List.set_cons_zero, List.set_cons_succ, List.getElem?_cons_zero, List.getElem?_cons_succ, Option.getD_some, Nat.reduceSub, List.cons_append, List.nil_append]
      exact gc_val (pre_app _ _) rfl
  · rw [pE_v h0]
    simp (maxSteps := 4000000) -implicitDefEqProofs -dsimp (disch := omega) only [↓AW_ops, ↓AW_seq, ↓AW_cond, ↓AW_ret, ↓AOps_nil, ↓AOps_pu, on_some, extK_same, condB_t, ↓then_normal, ↓then_ret, ↓Fin_ret, pval, rd_S, rd_C, put_S, resV, resL, List.replicate_succ, List.replicate_zero, List.set_cons_zero, List.set_cons_succ, List.getElem?_cons_zero, List.getElem?_cons_succ, Option.getD_some, Nat.reduceSub, List.cons_append, List.nil_append, bin_neq, decide_true, not_false_eq_true, h0]
    exact gc_same rfl
theorem s77 (hu : L3 A u rs) (hP : W Q) (a b : Int) : ACalls Try.prog 77 [.agg [I Q, u], I a, I b] A (I (pE Q rs a b)) A := by
  refine acalls hmix Try.func77 (by kernel_rfl) t77 3 rfl (by decide) ?_
  dsimp only [m77]
  simp (maxSteps := 4000000) -implicitDefEqProofs -dsimp (disch := omega) only [↓AW_ops, ↓AW_seq, ↓AOps_nil, ↓AOps_pu, ↓AOps_call, on_some, ↓then_normal, pval, rd_S, rd_C, put_S, chkd, bgot, AV.cells?, partA, eq_self, List.replicate_succ, List.replicate_zero, List.set_cons_zero, List.set_cons_succ, List.getElem?_cons_zero, List.getElem?_cons_succ, List.drop_zero, List.take_succ_cons, List.take_nil, Option.getD_some, map_c, map_n, List.length_cons, List.length_nil, Nat.reduceAdd, Nat.reduceSub, Nat.reduceLeDiff, Nat.reduceEqDiff, Nat.zero_add, List.cons_append, List.nil_append, if_true, if_false]
  refine CallK.of (s22 hu hP) ?_
  by_cases h0 : vE Q rs = 0
  case neg =>
    rw [pE_v h0]
    simp (maxSteps := 4000000) -implicitDefEqProofs -dsimp (disch := omega) only [↓AW_ops, ↓AW_seq, ↓AW_cond, ↓AW_ret, ↓AOps_nil, ↓AOps_pu, on_some, extK_same, condB_t, ↓then_normal, ↓then_ret, ↓Fin_ret, pval, rd_S, rd_C, put_S, resV, resL, List.replicate_succ, List.replicate_zero, List.set_cons_zero, List.set_cons_succ, List.getElem?_cons_zero, List.getElem?_cons_succ, Option.getD_some, Nat.reduceSub, List.cons_append, List.nil_append, bin_neq, decide_true, not_false_eq_true, h0]
    exact gc_same rfl
  have hn := vE_0.1 h0
  have := hn.p1
  have := hn.p7
  simp (maxSteps := 4000000) -implicitDefEqProofs -dsimp (disch := omega) only [↓AW_skip, ↓AW_ops, ↓AW_seq, ↓AW_cond, ↓AOps_nil, ↓AOps_pu, ↓AOps_call, on_some, extK_same, condB_f, ↓then_normal, pval, rd_S, rd_C, put_S, chkd, isAdr, bgot, AV.cells?, partA, eq_self, List.replicate_succ, List.replicate_zero, List.set_cons_zero, List.set_cons_succ, List.getElem?_cons_zero, List.getElem?_cons_succ, List.drop_zero, List.take_zero, List.take_succ_cons, Option.getD_some, map_c, map_n, List.length_cons, List.length_nil, Nat.reduceAdd, Nat.reduceSub, Nat.reduceLeDiff, Nat.zero_add, List.cons_append, List.nil_append, bin_sub, bin_neq, w64, if_true, if_false, Bool.false_eq_true, decide_false, not_true_eq_false, h0]
  refine CallK.of (c_wi _ _ _ _) ?_
  by_cases h1 : 0 ≤ a ∧ a ≤ Q - 1
  case neg =>
    rw [pE_4 h0 (fun hh => h1 hh.1)]
    simp (maxSteps := 4000000) -implicitDefEqProofs -dsimp (disch := omega) only [↓AW_ops, ↓AW_seq, ↓AW_cond, ↓AW_ret, ↓AOps_nil, ↓AOps_pu, ↓AOps_guard, on_some, extK_same, guardB_tf, skipS_some, condB_t, ↓then_normal, ↓then_ret, ↓Fin_ret, pval, rd_S, rd_C, put_S, resV, resL, eq_self, List.replicate_succ, List.replicate_zero, List.set_cons_zero, List.set_cons_succ, List.getElem?_cons_zero, List.getElem?_cons_succ, Option.getD_some, Nat.reduceSub, List.cons_append, List.nil_append, if_true, Bool.not_false, decide_false, h1]
    exact gc_same rfl
  simp (maxSteps := 4000000) -implicitDefEqProofs -dsimp (disch := omega) only [↓AOps_pu, ↓AOps_call, ↓AOps_guard, on_some, extK_same, guardB_ff, pval, rd_S, rd_C, put_S, chkd, isAdr, bgot, AV.cells?, partA, eq_self, List.replicate_succ, List.replicate_zero, List.set_cons_zero, List.set_cons_succ, List.getElem?_cons_zero, List.getElem?_cons_succ, List.drop_zero, List.take_zero, List.take_succ_cons, Option.getD_some, map_c, map_n, List.length_cons, List.length_nil, Nat.reduceAdd, Nat.reduceSub, Nat.reduceLeDiff, Nat.zero_add, List.cons_append, List.nil_append, bin_sub, w64, if_true, if_false, Bool.false_eq_true, Bool.not_true, decide_true, and_true, h1]
  refine CallK.of (c_wi _ _ _ _) ?_
  by_cases h2 : 0 ≤ b ∧ b ≤ Q - 1
  case neg =>
    rw [pE_4 h0 (fun hh => h2 hh.2)]
    simp (maxSteps := 4000000) -implicitDefEqProofs -dsimp (disch := omega) only [↓AW_ops, ↓AW_seq, ↓AW_cond, ↓AW_ret, ↓AOps_nil, ↓AOps_pu, ↓AOps_guard, on_some, extK_same, guardB_ff, condB_t, ↓then_normal, ↓then_ret, ↓Fin_ret, pval, rd_S, rd_C, put_S, resV, resL, List.replicate_succ, List.replicate_zero, List.set_cons_zero, List.set_cons_succ, List.getElem?_cons_zero, List.getElem?_cons_succ, Option.getD_some, Nat.reduceSub, List.cons_append, List.nil_append, if_false, Bool.false_eq_true, Bool.not_false, decide_false, h2]
    exact gc_same rfl
  rw [pE_0.2 ⟨hn, h1, h2⟩]
  simp (maxSteps := 4000000) -implicitDefEqProofs -dsimp (disch := omega) only [↓AW_skip, ↓AW_ops, ↓AW_seq, ↓AW_cond, ↓AW_ret, ↓AOps_nil, ↓AOps_pu, ↓AOps_guard, on_some, extK_same, guardB_ff, condB_f, ↓then_normal, ↓Fin_ret, pval, rd_S, rd_C, put_S, resV, resL, List.replicate_succ, List.replicate_zero, List.set_cons_zero, List.set_cons_succ, List.getElem?_cons_zero, List.getElem?_cons_succ, Option.getD_some, Nat.reduceSub, List.cons_append, List.nil_append, if_false, Bool.false_eq_true, Bool.not_true, decide_true, and_true, h2]
  exact gc_same rfl
end
end Go.Proofs.Ytkgfcdpckfhknaa

namespace Go.Proofs.Ytkgfcdpckfhknaa
open Go Go.Eng
/-- selion/selionlaw04.RoadRanges [] -/
def m3 : MFun := ⟨44, [2], [.mov (.s 4)],
 .seq (.ops [⟨(some 2), some (.junk), none, false, .pu (.bnew (.s 0))⟩,
   ⟨(some 4), some undefA, none, false, .pu (.mov (.c (.bool false)))⟩])
 (.seq (.seq (.ops [⟨(some 11), some undefA, none, false, .pu (.bget none 2 0 2 true)⟩,
   ⟨(some 12), some undefA, none, false, .call 17 [(.s 11)]⟩])
 (.cond (.s 12) (.seq (.ops [⟨(some 13), some undefA, none, false, .call 18 []⟩,
    ⟨(some 4), some undefA, none, false, .pu (.mov (.s 13))⟩])
  (.ret))
 (.skip)))
 (.seq (.ops [⟨(some 15), some undefA, none, false, .pu (.bget none 2 0 2 true)⟩,
   ⟨(some 16), some undefA, none, false, .pu (.mov (.s 1))⟩,
   ⟨(some 17), some undefA, none, false, .call 19 [(.s 15), (.s 16)]⟩,
   ⟨(some 14), some undefA, none, false, .pu (.mov (.s 17))⟩,
   ⟨(some 18), some undefA, none, false, .pu (.extr 0 (.s 14))⟩,
   ⟨(some 19), some undefA, none, false, .pu (.extr 1 (.s 14))⟩,
   ⟨(some 20), some undefA, none, false, .pu (.extr 2 (.s 14))⟩,
   ⟨(some 5), some undefA, none, false, .pu (.mov (.s 18))⟩,
   ⟨(some 6), some undefA, none, false, .pu (.mov (.s 19))⟩,
   ⟨(some 7), some undefA, none, false, .pu (.mov (.s 20))⟩])
 (.seq (.ops [⟨(some 22), some undefA, none, false, .pu (.bget none 2 0 2 true)⟩,
   ⟨(some 23), some undefA, none, false, .pu (.mov (.s 1))⟩,
   ⟨(some 24), some undefA, none, false, .call 20 [(.s 22), (.s 23)]⟩,
   ⟨(some 21), some undefA, none, false, .pu (.mov (.s 24))⟩,
   ⟨(some 25), some undefA, none, false, .pu (.extr 0 (.s 21))⟩,
   ⟨(some 26), some undefA, none, false, .pu (.extr 1 (.s 21))⟩,
   ⟨(some 27), some undefA, none, false, .pu (.extr 2 (.s 21))⟩,
   ⟨(some 8), some undefA, none, false, .pu (.mov (.s 25))⟩,
   ⟨(some 9), some undefA, none, false, .pu (.mov (.s 26))⟩,
   ⟨(some 10), some undefA, none, false, .pu (.mov (.s 27))⟩])
 (.seq (.ops [⟨(some 28), some undefA, none, false, .pu (.mov (.s 5))⟩,
   ⟨(some 29), some undefA, none, false, .pu (.mov (.s 8))⟩,
   ⟨(some 30), some undefA, none, false, .pu (.bin .eql (.s 28) (.s 29))⟩,
   ⟨(some 31), some undefA, none, false, .pu (.mov (.s 30))⟩,
   ⟨(some 32), some undefA, (some (31, true)), false, .pu (.mov (.s 6))⟩,
   ⟨(some 33), some undefA, (some (31, true)), false, .pu (.mov (.s 9))⟩,
   ⟨(some 34), some undefA, (some (31, true)), false, .pu (.eqb false (.s 32) (.s 33))⟩,
   ⟨(some 35), some undefA, none, false, .pu (.pick (.s 31) (.s 34) (.c (.bool false)))⟩,
   ⟨(some 36), some undefA, none, false, .pu (.mov (.s 35))⟩,
   ⟨(some 37), some undefA, (some (36, true)), false, .pu (.mov (.s 7))⟩,
   ⟨(some 38), some undefA, (some (36, true)), false, .pu (.mov (.s 10))⟩,
   ⟨(some 39), some undefA, (some (36, true)), false, .pu (.bin .eql (.s 37) (.s 38))⟩,
   ⟨(some 40), some undefA, none, false, .pu (.pick (.s 36) (.s 39) (.c (.bool false)))⟩,
   ⟨(some 41), some undefA, none, false, .pu (.mov (.s 40))⟩,
   ⟨(some 42), some undefA, (some (41, true)), false, .call 18 []⟩,
   ⟨(some 43), some undefA, none, false, .pu (.pick (.s 41) (.s 42) (.c (.bool false)))⟩,
   ⟨(some 4), some undefA, none, false, .pu (.mov (.s 43))⟩])
 (.ret)))))⟩
/-- selion/selionlaw04.RoadProves [] -/
def m11 : MFun := ⟨64, [3, 4], [.mov (.s 6)],
 .seq (.ops [⟨(some 3), some (.junk), none, false, .pu (.bnew (.s 0))⟩,
   ⟨(some 4), some (.junk), none, false, .pu (.bnew (.s 1))⟩,
   ⟨(some 6), some undefA, none, false, .pu (.mov (.c (.bool false)))⟩])
 (.seq (.seq (.ops [⟨(some 12), some undefA, none, false, .pu (.bget none 3 0 2 true)⟩,
   ⟨(some 13), some undefA, none, false, .call 17 [(.s 12)]⟩])
 (.cond (.s 13) (.seq (.ops [⟨(some 14), some undefA, none, false, .call 18 []⟩,
    ⟨(some 6), some undefA, none, false, .pu (.mov (.s 14))⟩])
  (.ret))
 (.skip)))
 (.seq (.ops [⟨(some 16), some undefA, none, false, .pu (.bget none 3 0 2 true)⟩,
   ⟨(some 17), some undefA, none, false, .pu (.badr none 4)⟩,
   ⟨(some 18), some undefA, none, false, .pu (.bget (some 17) 4 0 1 false)⟩,
   ⟨(some 19), some undefA, none, false, .pu (.badr none 4)⟩,
   ⟨(some 20), some undefA, none, false, .pu (.bget (some 19) 4 1 1 false)⟩,
   ⟨(some 21), some undefA, none, false, .pu (.mov (.s 2))⟩,
   ⟨(some 22), some undefA, none, false, .call 39 [(.s 16), (.s 18), (.s 20), (.s 21)]⟩,
   ⟨(some 15), some undefA, none, false, .pu (.mov (.s 22))⟩,
   ⟨(some 23), some undefA, none, false, .pu (.extr 0 (.s 15))⟩,
   ⟨(some 24), some undefA, none, false, .pu (.extr 1 (.s 15))⟩,
   ⟨(some 25), some undefA, none, false, .pu (.extr 2 (.s 15))⟩,
   ⟨(some 7), some undefA, none, false, .pu (.mov (.s 23))⟩,
   ⟨(some 8), some undefA, none, false, .pu (.mov (.s 24))⟩,
   ⟨(some 9), some undefA, none, false, .pu (.mov (.s 25))⟩])
 (.seq (.ops [⟨(some 27), some undefA, none, false, .pu (.bget none 3 0 2 true)⟩,
   ⟨(some 28), some undefA, none, false, .pu (.badr none 4)⟩,
   ⟨(some 29), some undefA, none, false, .pu (.bget (some 28) 4 0 1 false)⟩,
   ⟨(some 30), some undefA, none, false, .pu (.badr none 4)⟩,
   ⟨(some 31), some undefA, none, false, .pu (.bget (some 30) 4 1 1 false)⟩,
   ⟨(some 32), some undefA, none, false, .pu (.mov (.s 2))⟩,
   ⟨(some 33), some undefA, none, false, .call 40 [(.s 27), (.s 29), (.s 31), (.s 32)]⟩,
   ⟨(some 26), some undefA, none, false, .pu (.mov (.s 33))⟩,
   ⟨(some 34), some undefA, none, false, .pu (.extr 0 (.s 26))⟩,
   ⟨(some 35), some undefA, none, false, .pu (.extr 1 (.s 26))⟩,
   ⟨(some 10), some undefA, none, false, .pu (.mov (.s 34))⟩,
   ⟨(some 11), some undefA, none, false, .pu (.mov (.s 35))⟩])
 (.seq (.seq (.ops [⟨(some 36), some undefA, none, false, .pu (.mov (.s 8))⟩,
   ⟨(some 37), some undefA, none, false, .pu (.mov (.s 10))⟩,
   ⟨(some 38), some undefA, none, false, .pu (.eqb true (.s 36) (.s 37))⟩,
   ⟨(some 39), some undefA, none, false, .pu (.mov (.s 38))⟩,
   ⟨(some 40), some undefA, (some (39, false)), false, .pu (.mov (.s 9))⟩,
   ⟨(some 41), some undefA, (some (39, false)), false, .pu (.mov (.s 11))⟩,
   ⟨(some 42), some undefA, (some (39, false)), false, .pu (.bin .neq (.s 40) (.s 41))⟩,
   ⟨(some 43), some undefA, none, false, .pu (.pick (.s 39) (.c (.bool true)) (.s 42))⟩])
 (.cond (.s 43) (.seq (.ops [⟨(some 6), some undefA, none, false, .pu (.mov (.c (.bool false)))⟩])
  (.ret))
 (.skip)))
 (.seq (.seq (.ops [⟨(some 44), some undefA, none, false, .pu (.mov (.s 8))⟩,
   ⟨(some 45), some undefA, none, false, .pu (.not (.s 44))⟩])
 (.cond (.s 45) (.seq (.ops [⟨(some 46), some undefA, none, false, .pu (.mov (.s 7))⟩,
    ⟨(some 47), some undefA, none, false, .pu (.len (.s 46))⟩,
    ⟨(some 48), some undefA, none, false, .pu (.bin .eql (.s 47) (.c (.int .i64 0)))⟩,
    ⟨(some 49), some undefA, none, false, .pu (.mov (.s 48))⟩,
    ⟨(some 50), some undefA, (some (49, true)), false, .call 18 []⟩,
    ⟨(some 51), some undefA, none, false, .pu (.pick (.s 49) (.s 50) (.c (.bool false)))⟩,
    ⟨(some 6), some undefA, none, false, .pu (.mov (.s 51))⟩])
  (.ret))
 (.skip)))
 (.seq (.ops [⟨(some 52), some undefA, none, false, .pu (.bget none 3 0 2 true)⟩,
   ⟨(some 53), some undefA, none, false, .pu (.badr none 4)⟩,
   ⟨(some 54), some undefA, none, false, .pu (.bget (some 53) 4 0 1 false)⟩,
   ⟨(some 55), some undefA, none, false, .pu (.badr none 4)⟩,
   ⟨(some 56), some undefA, none, false, .pu (.bget (some 55) 4 1 1 false)⟩,
   ⟨(some 57), some undefA, none, false, .pu (.mov (.s 2))⟩,
   ⟨(some 58), some undefA, none, false, .pu (.mov (.s 7))⟩,
   ⟨(some 59), some undefA, none, false, .call 38 [(.s 52), (.s 54), (.s 56), (.s 57), (.s 58)]⟩,
   ⟨(some 60), some undefA, none, false, .pu (.bin .eql (.s 59) (.c (.int .i64 0)))⟩,
   ⟨(some 61), some undefA, none, false, .pu (.mov (.s 60))⟩,
   ⟨(some 62), some undefA, (some (61, true)), false, .call 18 []⟩,
   ⟨(some 63), some undefA, none, false, .pu (.pick (.s 61) (.s 62) (.c (.bool false)))⟩,
   ⟨(some 6), some undefA, none, false, .pu (.mov (.s 63))⟩])
 (.ret)))))))⟩
theorem t11 : trF Try.prog [3, 4] [] Try.f11 = some m11 := by kernel_rfl
end Go.Proofs.Ytkgfcdpckfhknaa

namespace Go.Proofs.Ytkgfcdpckfhknaa
open Go Go.Eng
section
variable {Q : Int} {rs : List Rd} {ks : List Int} {u v : AV} {A : AHeap} {a b : Int}
end
end Go.Proofs.Ytkgfcdpckfhknaa

namespace Go.Proofs.Ytkgfcdpckfhknaa
open Go Go.Eng
theorem bq1 : ((true : Bool) == false) = false := rfl
theorem bq2 : ((false : Bool) == true) = false := rfl
section
variable {Q : Int} {rs : List Rd} {ks : List Int} {u v : AV} {A : AHeap} {a b : Int}
/-- A road crosses a set's border, and costs no more. -/
def xR (ks : List Int) (c : Int) (r : Rd) : Prop := ¬ (decide (r.1 ∈ ks) = decide (r.2.1 ∈ ks)) ∧ r.2.2 ≤ c
instance xRdec (ks : List Int) (c : Int) (r : Rd) : Decidable (xR ks c r) := by unfold xR; infer_instance
/-- Why a set is no wall. -/
def xE (Q : Int) (rs : List Rd) (a b c : Int) (ks : List Int) : Int :=
  if pE Q rs a b = 0 then (if okS Q ks ∧ 0 ≤ c ∧ c ≤ 99 then (if a ∈ ks ∧ b ∉ ks then (if ∀ r ∈ rs, ¬ xR ks c r then 0 else 7) else 7) else 1) else pE Q rs a b
theorem xE_p {c : Int} (h : ¬ pE Q rs a b = 0) : xE Q rs a b c ks = pE Q rs a b := by unfold xE; rw [if_neg h]
theorem xE_1 {c : Int} (h : pE Q rs a b = 0) (h2 : ¬ (okS Q ks ∧ 0 ≤ c ∧ c ≤ 99)) : xE Q rs a b c ks = 1 := by unfold xE; rw [if_pos h, if_neg h2]
theorem xE_7 {c : Int} (h : pE Q rs a b = 0) (h2 : okS Q ks ∧ 0 ≤ c ∧ c ≤ 99) (h3 : ¬ (a ∈ ks ∧ b ∉ ks)) : xE Q rs a b c ks = 7 := by unfold xE; rw [if_pos h, if_pos h2, if_neg h3]
theorem xE_r {c : Int} (h : pE Q rs a b = 0) (h2 : okS Q ks ∧ 0 ≤ c ∧ c ≤ 99) (h3 : a ∈ ks ∧ b ∉ ks) (h4 : ¬ ∀ r ∈ rs, ¬ xR ks c r) : xE Q rs a b c ks = 7 := by unfold xE; rw [if_pos h, if_pos h2, if_pos h3, if_neg h4]
theorem xE_0 {c : Int} : xE Q rs a b c ks = 0 ↔ pE Q rs a b = 0 ∧ (okS Q ks ∧ 0 ≤ c ∧ c ≤ 99) ∧ (a ∈ ks ∧ b ∉ ks) ∧ ∀ r ∈ rs, ¬ xR ks c r := by
  constructor
  · intro h
    have h1 : pE Q rs a b = 0 := Classical.byContradiction (fun hn => by rw [xE_p hn] at h; exact hn h)
    have h2 : okS Q ks ∧ 0 ≤ c ∧ c ≤ 99 := Classical.byContradiction (fun hn => by rw [xE_1 h1 hn] at h; cases h)
    have h3 : a ∈ ks ∧ b ∉ ks := Classical.byContradiction (fun hn => by rw [xE_7 h1 h2 hn] at h; cases h)
    exact ⟨h1, h2, h3, Classical.byContradiction (fun hn => by rw [xE_r h1 h2 h3 hn] at h; cases h)⟩
  · rintro ⟨h1, h2, h3, h4⟩
    unfold xE
    rw [if_pos h1, if_pos h2, if_pos h3, if_pos h4]
set_option maxRecDepth 20000 in
set_option maxHeartbeats 8000000 in
theorem s38 (hu : L3 A u rs) (hP : W Q) (hx : L1 A v ks) (hl : ks.length ≤ 1000000) (a b c : Int) : ACalls Try.prog 38 [.agg [I Q, u], I a, I b, I c, v] A (I (xE Q rs a b c ks)) A := by
  refine acalls hmix Try.func38 (by kernel_rfl) t38 5 rfl (by decide) ?_
  dsimp only [m38]
  simp (maxSteps := 4000000) -implicitDefEqProofs -dsimp (disch := omega) only [↓AW_ops, ↓AW_seq, ↓AOps_nil, ↓AOps_pu, ↓AOps_call, on_some, ↓then_normal, pval, rd_S, rd_C, put_S, chkd, bgot, AV.cells?, partA, eq_self, List.replicate_succ, List.replicate_zero, List.set_cons_zero, List.set_cons_succ, List.getElem?_cons_zero, List.getElem?_cons_succ, List.drop_zero, List.take_succ_cons, List.take_nil, Option.getD_some, map_c, map_n, List.length_cons, List.length_nil, Nat.reduceAdd, Nat.reduceSub, Nat.reduceLeDiff, Nat.reduceEqDiff, Nat.zero_add, List.cons_append, List.nil_append, if_true, if_false]
  refine CallK.of (s77 hu hP a b) ?_
  by_cases h0 : pE Q rs a b = 0
  case neg =>
    rw [xE_p h0]
    simp (maxSteps := 4000000) -implicitDefEqProofs -dsimp (disch := omega) only [↓AW_ops, ↓AW_seq, ↓AW_cond, ↓AW_ret, ↓AOps_nil, ↓AOps_pu, on_some, extK_same, condB_t, ↓then_normal, ↓then_ret, ↓Fin_ret, pval, rd_S, rd_C, put_S, resV, resL, List.replicate_succ, List.replicate_zero, List.set_cons_zero, List.set_cons_succ, List.getElem?_cons_zero, List.getElem?_cons_succ, Option.getD_some, Nat.reduceSub, List.cons_append, List.nil_append, bin_neq, decide_true, not_false_eq_true, h0]
    exact gc_same rfl
  have hn := (pE_0.1 h0).1
  have hp1 := hn.p1
  have hp7 := hn.p7
  have hl14 := hn.l
  simp (maxSteps := 4000000) -implicitDefEqProofs -dsimp (disch := omega) only [↓AW_skip, ↓AW_ops, ↓AW_seq, ↓AW_cond, ↓AOps_nil, ↓AOps_pu, ↓AOps_call, on_some, extK_same, condB_f, ↓then_normal, pval, rd_S, rd_C, put_S, chkd, isAdr, bgot, AV.cells?, partA, eq_self, List.replicate_succ, List.replicate_zero, List.set_cons_zero, List.set_cons_succ, List.getElem?_cons_zero, List.getElem?_cons_succ, List.drop_zero, List.take_zero, List.take_succ_cons, Option.getD_some, map_c, map_n, List.length_cons, List.length_nil, Nat.reduceAdd, Nat.reduceSub, Nat.reduceLeDiff, Nat.zero_add, List.cons_append, List.nil_append, bin_neq, if_true, if_false, Bool.false_eq_true, decide_false, not_true_eq_false, h0]
  refine CallK.of (s75 hx hl (b := Q) (by omega)) ?_
  by_cases h1 : okS Q ks
  case neg =>
    rw [decide_eq_false h1, xE_1 h0 (fun hh => h1 hh.1)]
    simp (maxSteps := 4000000) -implicitDefEqProofs -dsimp (disch := omega) only [↓AW_ops, ↓AW_seq, ↓AW_cond, ↓AW_ret, ↓AOps_nil, ↓AOps_pu, ↓AOps_guard, on_some, extK_same, guardB_tf, skipS_some, condB_t, ↓then_normal, ↓then_ret, ↓Fin_ret, pval, rd_S, rd_C, put_S, resV, resL, eq_self, List.replicate_succ, List.replicate_zero, List.set_cons_zero, List.set_cons_succ, List.getElem?_cons_zero, List.getElem?_cons_succ, Option.getD_some, Nat.reduceSub, List.cons_append, List.nil_append, if_true, Bool.not_false]
    exact gc_same rfl
  rw [decide_eq_true h1]
  simp (maxSteps := 4000000) -implicitDefEqProofs -dsimp (disch := omega) only [↓AOps_pu, ↓AOps_call, ↓AOps_guard, on_some, extK_same, guardB_ff, pval, rd_S, rd_C, put_S, List.replicate_succ, List.replicate_zero, List.set_cons_zero, List.set_cons_succ, List.getElem?_cons_zero, List.getElem?_cons_succ, Option.getD_some, map_c, map_n, Nat.reduceSub, List.cons_append, List.nil_append, Bool.not_true]
  refine CallK.of (c_wi _ _ _ _) ?_
  by_cases h2 : 0 ≤ c ∧ c ≤ 99
  case neg =>
    rw [xE_1 h0 (fun hh => h2 hh.2)]
    simp (maxSteps := 4000000) -implicitDefEqProofs -dsimp (disch := omega) only [↓AW_ops, ↓AW_seq, ↓AW_cond, ↓AW_ret, ↓AOps_nil, ↓AOps_pu, ↓AOps_guard, on_some, extK_same, guardB_ff, condB_t, ↓then_normal, ↓then_ret, ↓Fin_ret, pval, rd_S, rd_C, put_S, resV, resL, List.replicate_succ, List.replicate_zero, List.set_cons_zero, List.set_cons_succ, List.getElem?_cons_zero, List.getElem?_cons_succ, Option.getD_some, Nat.reduceSub, List.cons_append, List.nil_append, if_false, Bool.false_eq_true, Bool.not_false, decide_false, h2]
    exact gc_same rfl
  simp (maxSteps := 4000000) -implicitDefEqProofs -dsimp (disch := omega) only [↓AW_skip, ↓AW_ops, ↓AW_seq, ↓AW_cond, ↓AOps_nil, ↓AOps_pu, ↓AOps_call, ↓AOps_guard, on_some, extK_same, guardB_ff, condB_f, ↓then_normal, pval, rd_S, rd_C, put_S, List.replicate_succ, List.replicate_zero, List.set_cons_zero, List.set_cons_succ, List.getElem?_cons_zero, List.getElem?_cons_succ, Option.getD_some, map_c, map_n, Nat.reduceSub, List.cons_append, List.nil_append, if_false, Bool.false_eq_true, Bool.not_true, decide_true, and_true, h2]
  refine CallK.of (s51 hx hl a) ?_
  by_cases ha : a ∈ ks
  case neg =>
    rw [decide_eq_false ha, xE_7 h0 ⟨h1, h2⟩ (fun hh => ha hh.1)]
    simp (maxSteps := 4000000) -implicitDefEqProofs -dsimp (disch := omega) only [↓AW_ops, ↓AW_seq, ↓AW_cond, ↓AW_ret, ↓AOps_nil, ↓AOps_pu, ↓AOps_guard, on_some, extK_same, guardB_tf, skipS_some, condB_t, ↓then_normal, ↓then_ret, ↓Fin_ret, pval, rd_S, rd_C, put_S, resV, resL, eq_self, List.replicate_succ, List.replicate_zero, List.set_cons_zero, List.set_cons_succ, List.getElem?_cons_zero, List.getElem?_cons_succ, Option.getD_some, Nat.reduceSub, List.cons_append, List.nil_append, if_true, Bool.not_false]
    exact gc_same rfl
  rw [decide_eq_true ha]
  simp (maxSteps := 4000000) -implicitDefEqProofs -dsimp (disch := omega) only [↓AOps_pu, ↓AOps_call, ↓AOps_guard, on_some, extK_same, guardB_ff, pval, rd_S, put_S, List.replicate_succ, List.replicate_zero, List.set_cons_zero, List.set_cons_succ, List.getElem?_cons_zero, List.getElem?_cons_succ, Option.getD_some, map_c, map_n, Nat.reduceSub, List.cons_append, List.nil_append, Bool.not_true]
  refine CallK.of (s51 hx hl b) ?_
  by_cases hb : b ∈ ks
  · rw [decide_eq_true hb, xE_7 h0 ⟨h1, h2⟩ (fun hh => hh.2 hb)]
    simp (maxSteps := 4000000) -implicitDefEqProofs -dsimp (disch := omega) only [↓AW_ops, ↓AW_seq, ↓AW_cond, ↓AW_ret, ↓AOps_nil, ↓AOps_pu, on_some, extK_same, condB_t, ↓then_normal, ↓then_ret, ↓Fin_ret, pval, rd_S, rd_C, put_S, resV, resL, List.replicate_succ, List.replicate_zero, List.set_cons_zero, List.set_cons_succ, List.getElem?_cons_zero, List.getElem?_cons_succ, Option.getD_some, Nat.reduceSub, List.cons_append, List.nil_append, if_false, Bool.false_eq_true]
    exact gc_same rfl
  rw [decide_eq_false hb]
  simp (maxSteps := 4000000) -implicitDefEqProofs -dsimp (disch := omega) only [↓AW_skip, ↓AW_ops, ↓AW_seq, ↓AW_cond, ↓AW_block, ↓AOps_nil, ↓AOps_pu, on_some, extK_same, condB_f, ↓then_normal, pval, rd_S, rd_C, put_S, ↓AW_toLoop, List.replicate_succ, List.replicate_zero, List.set_cons_zero, List.set_cons_succ, List.getElem?_cons_zero, List.getElem?_cons_succ, Option.getD_some, Nat.reduceSub, List.cons_append, List.nil_append, if_false, Bool.false_eq_true]
  refine LoopK.by 67 (fun i : Nat => i ≤ rs.length ∧ ∀ r ∈ rs.take i, ¬ xR ks c r) (fun i => [(3, I c), (4, v), (5, .agg [I Q, u]), (12, I i)]) (fun _ => A) (fun i => rs.length - i) 0 ⟨by omega, by simp⟩ rfl (by simp [Has, rd_s]) rfl ?_
  rintro i ⟨hi, he⟩
  by_cases hlt : i < rs.length
  · obtain ⟨z, hz⟩ : ∃ z, rs[i]? = some z := ⟨_, List.getElem?_eq_getElem hlt⟩
    have hlt' : (i : Int) < rs.length := by omega
    have hbad : xR ks c z → xE Q rs a b c ks = 7 := fun hh => xE_r h0 ⟨h1, h2⟩ ⟨ha, hb⟩ (fun hall => hall z (List.mem_of_getElem? hz) hh)
    simp (maxSteps := 4000000) -implicitDefEqProofs -dsimp (disch := omega) only [↓AW_skip, ↓AW_ops, ↓AW_seq, ↓AW_cond, ↓AW_block, ↓AOps_nil, ↓AOps_pu, ↓AOps_ld, ↓AOps_call, on_some, condB_t, ↓then_normal, pval, lval, rd_S, rd_C, put_S, chkd, isAdr, bput, bgot, AV.cells?, splice, partA, eq_self, mk, List.foldl_cons, List.foldl_nil, List.replicate_succ, List.replicate_zero, List.set_cons_zero, List.set_cons_succ, List.getElem?_cons_zero, List.getElem?_cons_succ, List.drop_zero, List.drop_succ_cons, List.drop_nil, List.take_zero, List.take_succ_cons, List.take_nil, Option.getD_some, map_c, map_n, List.length_cons, List.length_nil, Nat.reduceAdd, Nat.reduceLeDiff, Nat.reduceEqDiff, Nat.zero_add, List.nil_append, List.append_nil, bin_lss, if_true, if_false, Bool.false_eq_true, decide_true, ne_eq, not_true_eq_false, hlt', hu.len, hu.idx hlt, hu.ld0 hz 3 true (by decide), e3]
    refine CallK.of (s51 hx hl z.1) ?_
    simp (maxSteps := 4000000) -implicitDefEqProofs -dsimp (disch := omega) only [↓AOps_pu, ↓AOps_call, on_some, extK_same, pval, rd_S, put_S, chkd, isAdr, bgot, AV.cells?, partA, eq_self, mk, List.foldl_cons, List.foldl_nil, List.replicate_succ, List.replicate_zero, List.set_cons_zero, List.set_cons_succ, List.getElem?_cons_zero, List.getElem?_cons_succ, List.drop_zero, List.drop_succ_cons, List.take_zero, List.take_succ_cons, Option.getD_some, map_c, map_n, List.length_cons, List.length_nil, Nat.reduceAdd, Nat.reduceLeDiff, Nat.zero_add, if_true, if_false, Bool.false_eq_true]
    refine CallK.of (s51 hx hl z.2.1) ?_
    have hxz : xR ks c z ↔ ¬ (decide (z.1 ∈ ks) = decide (z.2.1 ∈ ks)) ∧ z.2.2 ≤ c := Iff.rfl
    generalize decide (z.1 ∈ ks) = p1 at *
    generalize decide (z.2.1 ∈ ks) = p2 at *
    cases p1 <;> cases p2
    · simp (maxSteps := 4000000) -implicitDefEqProofs -dsimp (disch := omega) only [↓AW_skip, ↓AW_ops, ↓AW_cond, ↓AOps_nil, ↓AOps_pu, ↓AOps_guard, on_some, extK_same, guardB_ft, skipS_some, condB_f, ↓then_normal, ↓inBlock_normal, pval, rd_S, rd_C, put_S, beq_self_eq_true, eq_self, mk, List.foldl_cons, List.foldl_nil, List.replicate_succ, List.replicate_zero, List.set_cons_zero, List.set_cons_succ, List.getElem?_cons_zero, List.getElem?_cons_succ, Option.getD_some, List.length_cons, List.length_nil, Nat.reduceAdd, Nat.zero_add, bin_add, w64, if_true, if_false, Bool.false_eq_true, Bool.not_true, true_and]
      exact ⟨i + 1, ⟨hlt, all_take he hz (fun hh => (hxz.1 hh).1 rfl)⟩, by simp [Has, rd_s], by omega⟩
    · by_cases hc : z.2.2 ≤ c
      · rw [hbad (hxz.2 ⟨by simp, hc⟩)]
        simp (maxSteps := 4000000) -implicitDefEqProofs -dsimp (disch := omega) only [↓AW_ops, ↓AW_seq, ↓AW_cond, ↓AW_ret, ↓AOps_nil, ↓AOps_pu, ↓AOps_guard, on_some, extK_same, guardB_tt, condB_t, ↓then_normal, ↓then_ret, ↓inBlock_ret, ↓Fin_ret, pval, rd_S, rd_C, put_S, resV, resL, chkd, isAdr, bgot, AV.cells?, partA, eq_self, mk, List.foldl_cons, List.foldl_nil, List.replicate_succ, List.replicate_zero, List.set_cons_zero, List.set_cons_succ, List.getElem?_cons_zero, List.getElem?_cons_succ, List.drop_zero, List.drop_succ_cons, List.take_succ_cons, List.take_nil, Option.getD_some, List.length_cons, List.length_nil, Nat.reduceAdd, Nat.reduceLeDiff, Nat.zero_add, bin_leq, if_true, if_false, Bool.false_eq_true, Bool.not_false, decide_true, bq2, hc]
        exact gc_same rfl
      · simp (maxSteps := 4000000) -implicitDefEqProofs -dsimp (disch := omega) only [↓AW_skip, ↓AW_ops, ↓AW_cond, ↓AOps_nil, ↓AOps_pu, ↓AOps_guard, on_some, extK_same, guardB_tt, condB_f, ↓then_normal, ↓inBlock_normal, pval, rd_S, rd_C, put_S, chkd, isAdr, bgot, AV.cells?, partA, eq_self, mk, List.foldl_cons, List.foldl_nil, List.replicate_succ, List.replicate_zero, List.set_cons_zero, List.set_cons_succ, List.getElem?_cons_zero, List.getElem?_cons_succ, List.drop_zero, List.drop_succ_cons, List.take_succ_cons, List.take_nil, Option.getD_some, List.length_cons, List.length_nil, Nat.reduceAdd, Nat.reduceLeDiff, Nat.zero_add, bin_add, bin_leq, w64, if_true, if_false, Bool.false_eq_true, Bool.not_false, decide_false, true_and, bq2, hc]
        exact ⟨i + 1, ⟨hlt, all_take he hz (fun hh => hc (hxz.1 hh).2)⟩, by simp [Has, rd_s], by omega⟩
    · by_cases hc : z.2.2 ≤ c
      · rw [hbad (hxz.2 ⟨by simp, hc⟩)]
        simp (maxSteps := 4000000) -implicitDefEqProofs -dsimp (disch := omega) only [↓AW_ops, ↓AW_seq, ↓AW_cond, ↓AW_ret, ↓AOps_nil, ↓AOps_pu, ↓AOps_guard, on_some, extK_same, guardB_tt, condB_t, ↓then_normal, ↓then_ret, ↓inBlock_ret, ↓Fin_ret, pval, rd_S, rd_C, put_S, resV, resL, chkd, isAdr, bgot, AV.cells?, partA, eq_self, mk, List.foldl_cons, List.foldl_nil, List.replicate_succ, List.replicate_zero, List.set_cons_zero, List.set_cons_succ, List.getElem?_cons_zero, List.getElem?_cons_succ, List.drop_zero, List.drop_succ_cons, List.take_succ_cons, List.take_nil, Option.getD_some, List.length_cons, List.length_nil, Nat.reduceAdd, Nat.reduceLeDiff, Nat.zero_add, bin_leq, if_true, if_false, Bool.false_eq_true, Bool.not_false, decide_true, bq1, hc]
        exact gc_same rfl
      · simp (maxSteps := 4000000) -implicitDefEqProofs -dsimp (disch := omega) only [↓AW_skip, ↓AW_ops, ↓AW_cond, ↓AOps_nil, ↓AOps_pu, ↓AOps_guard, on_some, extK_same, guardB_tt, condB_f, ↓then_normal, ↓inBlock_normal, pval, rd_S, rd_C, put_S, chkd, isAdr, bgot, AV.cells?, partA, eq_self, mk, List.foldl_cons, List.foldl_nil, List.replicate_succ, List.replicate_zero, List.set_cons_zero, List.set_cons_succ, List.getElem?_cons_zero, List.getElem?_cons_succ, List.drop_zero, List.drop_succ_cons, List.take_succ_cons, List.take_nil, Option.getD_some, List.length_cons, List.length_nil, Nat.reduceAdd, Nat.reduceLeDiff, Nat.zero_add, bin_add, bin_leq, w64, if_true, if_false, Bool.false_eq_true, Bool.not_false, decide_false, true_and, bq1, hc]
        exact ⟨i + 1, ⟨hlt, all_take he hz (fun hh => hc (hxz.1 hh).2)⟩, by simp [Has, rd_s], by omega⟩
    · simp (maxSteps := 4000000) -implicitDefEqProofs -dsimp (disch := omega) only [↓AW_skip, ↓AW_ops, ↓AW_cond, ↓AOps_nil, ↓AOps_pu, ↓AOps_guard, on_some, extK_same, guardB_ft, skipS_some, condB_f, ↓then_normal, ↓inBlock_normal, pval, rd_S, rd_C, put_S, beq_self_eq_true, eq_self, mk, List.foldl_cons, List.foldl_nil, List.replicate_succ, List.replicate_zero, List.set_cons_zero, List.set_cons_succ, List.getElem?_cons_zero, List.getElem?_cons_succ, Option.getD_some, List.length_cons, List.length_nil, Nat.reduceAdd, Nat.zero_add, bin_add, w64, if_true, if_false, Bool.false_eq_true, Bool.not_true, true_and]
      exact ⟨i + 1, ⟨hlt, all_take he hz (fun hh => (hxz.1 hh).1 rfl)⟩, by simp [Has, rd_s], by omega⟩
  · have hlt' : ¬ ((i : Int) < rs.length) := by omega
    rw [List.take_of_length_le (by omega)] at he
    rw [xE_0.2 ⟨h0, ⟨h1, h2⟩, ⟨ha, hb⟩, he⟩]
    simp (maxSteps := 4000000) -implicitDefEqProofs -dsimp (disch := omega) only [↓AW_ops, ↓AW_seq, ↓AW_cond, ↓AW_exit, ↓AW_ret, ↓AOps_nil, ↓AOps_pu, on_some, condB_f, ↓then_normal, ↓then_exit, ↓inBlock_exit, ↓Fin_ret, pval, rd_S, rd_C, put_S, resV, resL, chkd, isAdr, bgot, AV.cells?, partA, eq_self, mk, List.foldl_cons, List.foldl_nil, List.replicate_succ, List.replicate_zero, List.set_cons_zero, List.set_cons_succ, List.getElem?_cons_zero, List.getElem?_cons_succ, List.drop_zero, List.drop_succ_cons, List.take_succ_cons, List.take_nil, Option.getD_some, List.length_cons, List.length_nil, Nat.reduceAdd, Nat.reduceLeDiff, Nat.zero_add, bin_lss, if_true, if_false, Bool.false_eq_true, decide_false, hlt', hu.len]
    exact gc_same rfl
end
end Go.Proofs.Ytkgfcdpckfhknaa

namespace Go.Proofs.Ytkgfcdpckfhknaa
open Go Go.Eng
section
variable {P : Nat} {rs : List Rd} {ks : List Int} {u v : AV} {A : AHeap}
/-- Joined by all roads up to a cost. -/
theorem cnT_all {xs : List Rd} {t a b : Int} : cnT xs (nums xs) t a b ↔ Cn (xs.filter (fun r => decide (r.2.2 ≤ t))) a b := by
  unfold cnT
  refine Cn.iff (fun e => ?_)
  rw [List.mem_map, List.mem_filter, decide_eq_true_eq]
  constructor
  · rintro ⟨k, hk, rfl⟩
    rw [mem_upTo, mem_plc] at hk
    exact ⟨(rdx_at hk.1.1 (by omega)).2, hk.2⟩
  · rintro ⟨he, ht⟩
    obtain ⟨i, hi, rfl⟩ := List.mem_iff_getElem.1 he
    have hr : rdx xs (i : Int) = xs[i] := by
      unfold rdx
      rw [Int.toNat_natCast, List.getElem?_eq_getElem hi]
      rfl
    refine ⟨(i : Int), ?_, hr⟩
    rw [mem_upTo, mem_plc]
    refine ⟨by omega, ?_⟩
    show (rdx xs (i : Int)).2.2 ≤ t
    rw [hr]
    exact ht
end
end Go.Proofs.Ytkgfcdpckfhknaa

namespace Go.Proofs.Ytkgfcdpckfhknaa
open Go Go.Eng
/-- A map from places to pairs of numbers. -/
def mG (ks : List Int) (g : Int → Int × Int) : List (AV × AV) := mpl ks (fun q => .agg [I (g q).1, I (g q).2])
def updG (g : Int → Int × Int) (k : Int) (x : Int × Int) : Int → Int × Int := fun p => if p = k then x else g p
theorem lkG {H : AHeap} {n : Nat} {ks : List Int} {g : Int → Int × Int} (h : H[n]? = some (.mp (mG ks g))) (q : Int) : (q ∈ ks → lkA (.agg [I 0, I 0]) true (.mp n) (I q) H = some (.tuple [.agg [I (g q).1, I (g q).2], .bool true])) ∧ (q ∉ ks → lkA (.agg [I 0, I 0]) true (.mp n) (I q) H = some (.tuple [.agg [I 0, I 0], .bool false])) := by
  have := lk_ok h rfl (.agg [I 0, I 0]) q
  constructor
  · intro hq
    rw [if_pos hq, decide_eq_true hq] at this
    exact this
  · intro hq
    rw [if_neg hq, decide_eq_false hq] at this
    exact this
theorem msG {H : AHeap} {n : Nat} {ks : List Int} {g : Int → Int × Int} (h : H[n]? = some (.mp (mG ks g))) {q : Int} (hq : q ∉ ks) (x y : Int) : msA (.mp n) (I q) (.agg [I x, I y]) H = some (H.set n (.mp (mG (ks ++ [q]) (updG g q (x, y))))) := by
  refine ms_at h ?_
  have hs := setK_new (x := .agg [I x, I y]) (f := fun q => .agg [I (g q).1, I (g q).2]) hq
  have e : mpl ks (fun q => AV.agg [I (g q).1, I (g q).2]) ++ [(I q, .agg [I x, I y])] = mG (ks ++ [q]) (updG g q (x, y)) := by
    unfold mG mpl
    rw [List.map_append]
    congr 1
    · refine List.map_congr_left (fun k hk => ?_)
      show (I k, AV.agg [I (g k).1, I (g k).2]) = (I k, AV.agg [I (if k = q then (x, y) else g k).1, I (if k = q then (x, y) else g k).2])
      rw [if_neg (fun e : k = q => hq (by rw [← e]; exact hk))]
    · show _ = [(I q, AV.agg [I (updG g q (x, y) q).1, I (updG g q (x, y) q).2])]
      unfold updG
      rw [if_pos rfl]
  rw [e] at hs
  exact hs
/-- A list that the call has made and that stands apart from an object. -/
structure QS (A H : AHeap) (m : Nat) (y : AV) (qs : List Int) : Prop where
  q : ∃ n full pre post, y = .sl 1 n pre.length qs.length full ∧ H[n]? = some (.cells true (pre ++ qs.flatMap e1 ++ post)) ∧ n ≠ m ∧ A.length ≤ n ∧ (full = true → post = [])
theorem QS.ls {A H : AHeap} {m : Nat} {y : AV} {qs : List Int} (h : QS A H m y qs) : L1 H y qs := by
  obtain ⟨n, full, pre, post, rfl, h1, _, _, _⟩ := h.q
  refine ⟨e1_len, ?_⟩
  have hl := flatMap_length e1_len qs
  simp only [slCells, cellsAt, h1, if_true]
  rw [if_pos (by simp only [List.length_append]; omega)]
  simp only [Option.map_some, Option.some.injEq, Prod.mk.injEq, true_and]
  rw [List.append_assoc, List.drop_left, ← hl, List.take_left]
theorem QS.pop {A H : AHeap} {m : Nat} {y : AV} {q : Int} {qs : List Int} (h : QS A H m y (q :: qs)) : ∃ y', slcA 1 y (some (I 1)) none none = some y' ∧ QS A H m y' qs := by
  obtain ⟨n, full, pre, post, rfl, h1, h2, h3, h4⟩ := h.q
  refine ⟨.sl 1 n (pre.length + 1) qs.length full, ?_, ⟨n, full, pre ++ [I q], post, by simp, ?_, h2, h3, h4⟩⟩
  · have : (1 : Int) ≤ (qs.length : Int) + 1 := by omega
    simp [slcA, bnd, this]
  · rw [h1]
    simp [e1]
theorem QS.push {A H : AHeap} {m : Nat} {y : AV} {qs : List Int} (h : QS A H m y qs) (hp : A <+: H) (hl : qs.length + 1 ≤ lim) (hm : m < H.length) (q : Int) : ∃ y' H2, appA 1 (H ++ [.cells true [I q]]) y (.sl 1 H.length 0 1 true) = some (y', H2) ∧ QS A H2 m y' (qs ++ [q]) ∧ (∀ o, H[m]? = some o → H2[m]? = some o) ∧ A <+: H2 := by
  obtain ⟨n, full, pre, post, rfl, h1, h2, h3, h4⟩ := h.q
  have hn := (List.getElem?_eq_some_iff.1 h1).1
  have hfl := flatMap_length e1_len qs
  have hc := slCells_new (es := 1) H [I q] rfl
  have hg : (H ++ [AObj.cells true [I q]])[n]? = some (.cells true (pre ++ qs.flatMap e1 ++ post)) := by rw [List.getElem?_append_left hn]; exact h1
  have hnew : ((pre ++ qs.flatMap e1 ++ post).drop pre.length).take (qs.length * 1) ++ [I q] = (qs ++ [q]).flatMap e1 := by
    rw [List.append_assoc, List.drop_left, ← hfl, List.take_left, List.flatMap_append]
    rfl
  have hlen : (qs ++ [q]).length = qs.length + 1 := by simp
  unfold appA
  rw [hc]
  simp only [Nat.one_ne_zero, if_false, hl, and_self, if_true, hg]
  rw [if_pos (by simp only [List.length_append]; omega), hnew]
  cases full with
  | true =>
    simp only [if_true]
    refine ⟨_, _, rfl, ⟨_, false, [], [], by rw [hlen]; rfl, by simp, ?_, ?_, by simp⟩, ?_, ?_⟩
    · intro e
      simp only [List.length_append] at e
      omega
    · simp only [List.length_append]; have := hp.length_le; omega
    · intro o ho
      have := (List.getElem?_eq_some_iff.1 ho).1
      rw [List.getElem?_append_left (by simp only [List.length_append]; omega), List.getElem?_append_left this]
      exact ho
    · exact (hp.trans (pre_app _ _)).trans (pre_app _ _)
  | false =>
    simp only [Bool.false_eq_true, if_false]
    refine ⟨_, _, rfl, ⟨_, false, [], [], by rw [hlen]; rfl, by simp, ?_, ?_, by simp⟩, ?_, ?_⟩
    · intro e
      simp only [List.length_append] at e
      omega
    · simp only [List.length_append]; have := hp.length_le; omega
    · intro o ho
      have := (List.getElem?_eq_some_iff.1 ho).1
      rw [List.getElem?_append_left (by simp only [List.length_set, List.length_append]; omega), List.getElem?_set, if_neg h2, List.getElem?_append_left this]
      exact ho
    · exact (pre_set (hp.trans (pre_app _ _)) h3 _).trans (pre_app _ _)
/-- A road up to a cost that joins two places. -/
def jn (rs : List Rd) (c k p q : Int) : Prop := (0 ≤ k ∧ k ≤ (rs.length : Int) - 1) ∧ wct rs k ≤ c ∧ (((rdx rs k).1 = p ∧ (rdx rs k).2.1 = q) ∨ ((rdx rs k).1 = q ∧ (rdx rs k).2.1 = p))
/-- The places in the order in which they were reached. -/
inductive BT (rs : List Rd) (c a : Int) : List Int → (Int → Int × Int) → Prop
  | base {g : Int → Int × Int} : BT rs c a [a] g
  | step {ks : List Int} {g : Int → Int × Int} {k p q : Int} : BT rs c a ks g → q ∉ ks → p ∈ ks → jn rs c k p q → BT rs c a (ks ++ [q]) (updG g q (k, p))
theorem jn_mem {rs : List Rd} {c k p q : Int} (h : jn rs c k p q) : ∃ e, e ∈ (upTo (wct rs) (nums rs) c).map (rdx rs) ∧ ((e.1 = p ∧ e.2.1 = q) ∨ (e.1 = q ∧ e.2.1 = p)) :=
  ⟨rdx rs k, List.mem_map_of_mem (mem_upTo.2 ⟨mem_plc.2 (by have := h.1; omega), h.2.1⟩), h.2.2⟩
theorem BT.mem {rs : List Rd} {c a : Int} {ks : List Int} {g : Int → Int × Int} (h : BT rs c a ks g) : a ∈ ks := by
  induction h with
  | base => simp
  | step _ _ _ _ ih => exact List.mem_append_left _ ih
theorem BT.nodup {rs : List Rd} {c a : Int} {ks : List Int} {g : Int → Int × Int} (h : BT rs c a ks g) : ks.Nodup := by
  induction h with
  | base => simp
  | step _ hq _ _ ih => exact List.nodup_append.2 ⟨ih, by simp, fun x hx y hy e => hq (by rw [List.mem_singleton] at hy; rw [← hy, ← e]; exact hx)⟩
theorem BT.cn {rs : List Rd} {c a : Int} {ks : List Int} {g : Int → Int × Int} (h : BT rs c a ks g) : ∀ p ∈ ks, cnT rs (nums rs) c a p := by
  induction h with
  | base => intro p hp; rw [List.mem_singleton] at hp; rw [hp]; exact .refl _
  | step _ hq hp hj ih =>
    intro x hx
    rcases List.mem_append.1 hx with h1 | h1
    · exact ih x h1
    · rw [List.mem_singleton] at h1
      rw [h1]
      obtain ⟨e, he, hr⟩ := jn_mem hj
      exact .step (ih _ hp) e he hr
theorem BT.inP {P : Nat} {rs : List Rd} {c a : Int} {ks : List Int} {g : Int → Int × Int} (h : BT rs c a ks g) (hn : Net P rs) (ha : 0 ≤ a ∧ a < P) : ∀ p ∈ ks, 0 ≤ p ∧ p < P := by
  induction h with
  | base => intro p hp; rw [List.mem_singleton] at hp; rw [hp]; exact ha
  | step _ hq hp hj ih =>
    intro x hx
    rcases List.mem_append.1 hx with h1 | h1
    · exact ih x h1
    · rw [List.mem_singleton] at h1
      rw [h1]
      obtain ⟨⟨k0, k1⟩, _, hr⟩ := hj
      obtain ⟨ha1, hb1⟩ := hn.inP k0 k1
      rcases hr with ⟨_, e2⟩ | ⟨e1, _⟩
      · rw [← e2]; exact hb1
      · rw [← e1]; exact ha1
/-- Each place but the first was reached from an earlier one. -/
theorem BT.rank {rs : List Rd} {c a : Int} {ks : List Int} {g : Int → Int × Int} (h : BT rs c a ks g) : ∃ r : Int → Nat, ∀ q ∈ ks, r q < ks.length ∧ (¬ q = a → (g q).2 ∈ ks ∧ r (g q).2 < r q ∧ jn rs c (g q).1 (g q).2 q) := by
  induction h with
  | base => exact ⟨fun _ => 0, fun q hq => ⟨by simp, fun hn => absurd (List.mem_singleton.1 hq) hn⟩⟩
  | @step ks g k p q hb hq hp hj ih =>
    obtain ⟨r, hr⟩ := ih
    refine ⟨fun x => if x = q then ks.length else r x, fun x hx => ?_⟩
    by_cases hxq : x = q
    · subst hxq
      refine ⟨by simp, fun _ => ?_⟩
      have hpx : ¬ p = x := fun e => hq (by rw [← e]; exact hp)
      simp only [updG, if_true, hpx, if_false]
      exact ⟨List.mem_append_left _ hp, (hr p hp).1, hj⟩
    · have hxk : x ∈ ks := by
        rcases List.mem_append.1 hx with h1 | h1
        · exact h1
        · exact absurd (List.mem_singleton.1 h1) hxq
      obtain ⟨h1, h2⟩ := hr x hxk
      simp only [updG, hxq, if_false]
      refine ⟨by simp; omega, fun hn => ?_⟩
      obtain ⟨h3, h4, h5⟩ := h2 hn
      have hgq : ¬ (g x).2 = q := fun e => hq (by rw [← e]; exact h3)
      simp only [hgq, if_false]
      exact ⟨List.mem_append_left _ h3, h4, h5⟩
/-- All cheap roads from a place lead to places of a list. -/
def clo (rs : List Rd) (c : Int) (ks : List Int) (p : Int) : Prop := ∀ k q, jn rs c k p q → q ∈ ks
theorem clo_all {rs : List Rd} {c a : Int} {ks : List Int} (ha : a ∈ ks) (h : ∀ p ∈ ks, clo rs c ks p) {p : Int} (hc : cnT rs (nums rs) c a p) : p ∈ ks := by
  unfold cnT at hc
  induction hc with
  | refl => exact ha
  | step _ e he hr ih =>
    obtain ⟨k, hk, rfl⟩ := List.mem_map.1 he
    rw [mem_upTo, mem_plc] at hk
    exact h _ ih k _ ⟨⟨hk.1.1, by omega⟩, hk.2, hr⟩
theorem l1_at0 {A : AHeap} {v : AV} {x : Int} {xs : List Int} (h : L1 A v (x :: xs)) : idxA 1 v (.int .i64 0) = some (.ptr (nm v) (of v)) ∧ ldA 1 false (.ptr (nm v) (of v)) A = some (I x) := by
  have h1 := h.idx (k := .i64) (i := 0) (by simp)
  have h2 := h.ld0 (i := 0) (x := x) rfl 1 false (by decide)
  constructor
  · simpa using h1
  · simpa [Go.Eng.e1, partA] using h2
section
variable {P : Nat} {rs : List Rd} {u v : AV} {A : AHeap} {a c : Int}
structure BF (rs : List Rd) (P : Nat) (A : AHeap) (a c : Int) (ks : List Int) (g : Int → Int × Int) (qs : List Int) (y : AV) (H : AHeap) : Prop where
  pre : A <+: H
  mp : H[A.length]? = some (.mp (mG ks g))
  q : QS A H A.length y qs
  bt : BT rs c a ks g
  sub : ∀ p ∈ qs, p ∈ ks
  cl : ∀ p ∈ ks, p ∉ qs → clo rs c ks p
  len : qs.length ≤ ks.length
theorem BF.le {ks qs : List Int} {g : Int → Int × Int} {y : AV} {H : AHeap} (hb : BF rs P A a c ks g qs y H) (hn : Net P rs) (ha : 0 ≤ a ∧ a < P) : ks.length ≤ P := by
  have := nodup_len_le hb.bt.nodup (ys := plc P) (fun x hx => mem_plc.2 (hb.bt.inP hn ha x hx))
  rw [plc_len] at this
  exact this
theorem BF.push {ks qs : List Int} {g : Int → Int × Int} {y : AV} {H : AHeap} {k p q : Int} (hb : BF rs P A a c ks g qs y H) (hn : Net P rs) (ha : 0 ≤ a ∧ a < P) (hq : q ∉ ks) (hp : p ∈ ks) (hj : jn rs c k p q) :
    ∃ y' H2, appA 1 (H.set A.length (.mp (mG (ks ++ [q]) (updG g q (k, p)))) ++ [.cells true [I q]]) y (.sl 1 (H.set A.length (.mp (mG (ks ++ [q]) (updG g q (k, p))))).length 0 1 true) = some (y', H2) ∧ BF rs P A a c (ks ++ [q]) (updG g q (k, p)) (qs ++ [q]) y' H2 := by
  have hle := hb.le hn ha
  have hp7 := hn.p7
  have hAl : A.length < H.length := (List.getElem?_eq_some_iff.1 hb.mp).1
  have hp1 : A <+: H.set A.length (.mp (mG (ks ++ [q]) (updG g q (k, p)))) := pre_set hb.pre (Nat.le_refl _) _
  have hm1 : (H.set A.length (.mp (mG (ks ++ [q]) (updG g q (k, p)))))[A.length]? = some (.mp (mG (ks ++ [q]) (updG g q (k, p)))) := List.getElem?_set_self hAl
  have hq1 : QS A (H.set A.length (.mp (mG (ks ++ [q]) (updG g q (k, p))))) A.length y qs := by
    obtain ⟨n, full, pre, post, h0, h1, h2, h3, h4⟩ := hb.q.q
    exact ⟨n, full, pre, post, h0, by rw [List.getElem?_set_ne (Ne.symm h2)]; exact h1, h2, h3, h4⟩
  obtain ⟨y', H2, happ, hq2, hkeep, hp2⟩ := hq1.push hp1 (by have := hb.len; simp only [lim]; omega) (by rw [List.length_set]; exact hAl) q
  refine ⟨y', H2, happ, ⟨hp2, hkeep _ hm1, hq2, .step hb.bt hq hp hj, fun x hx => ?_, fun x hx hnx => ?_, by simp; exact hb.len⟩⟩
  · rcases List.mem_append.1 hx with h | h
    · exact List.mem_append_left _ (hb.sub x h)
    · exact List.mem_append_right _ h
  · have hxk : x ∈ ks := by
      rcases List.mem_append.1 hx with h | h
      · exact h
      · exact absurd (List.mem_append_right _ h) hnx
    exact fun k' q' h' => List.mem_append_left _ (hb.cl x hxk (fun h => hnx (List.mem_append_left _ h)) k' q' h')
theorem BF.pop {ks qs : List Int} {g : Int → Int × Int} {y : AV} {H : AHeap} {p : Int} (hb : BF rs P A a c ks g (p :: qs) y H) (hc : clo rs c ks p) : ∃ y', slcA 1 y (some (I 1)) none none = some y' ∧ BF rs P A a c ks g qs y' H := by
  obtain ⟨y', h1, h2⟩ := hb.q.pop
  refine ⟨y', h1, ⟨hb.pre, hb.mp, h2, hb.bt, fun x hx => hb.sub x (List.mem_cons_of_mem _ hx), fun x hx hnx => ?_, by have := hb.len; simp at this; omega⟩⟩
  by_cases hxp : x = p
  · rw [hxp]; exact hc
  · exact hb.cl x hx (fun h => by
      rcases List.mem_cons.1 h with h | h
      · exact hxp h
      · exact hnx h)
set_option maxRecDepth 20000 in
set_option maxHeartbeats 16000000 in
theorem c_reached (hu : L3 A u rs) (hn : Net P rs) (ha : 0 ≤ a ∧ a < P) : ∃ H, ACalls Try.prog 81 [.agg [I P, u], I a, I c] A (.mp A.length) H ∧ A <+: H ∧ ∃ ks g, H[A.length]? = some (.mp (mG ks g)) ∧ BT rs c a ks g ∧ ∀ p, p ∈ ks ↔ cnT rs (nums rs) c a p := by
  have key : ∃ r H, ACalls Try.prog 81 [.agg [I P, u], I a, I c] A r H ∧ r = .mp A.length ∧ A <+: H ∧ ∃ ks g, H[A.length]? = some (.mp (mG ks g)) ∧ BT rs c a ks g ∧ ∀ p, p ∈ ks ↔ cnT rs (nums rs) c a p := by
    refine acallsR hmix Try.func81 (by kernel_rfl) t81 _ 3 rfl (by decide) ?_
    have hl14 := hn.l
    have hp7 := hn.p7
    dsimp only [m81]
    simp (maxSteps := 4000000) -implicitDefEqProofs -dsimp (disch := omega) only [↓AW_ops, ↓AW_seq, ↓AOps_nil, ↓AOps_pu, on_some, ↓then_normal, pval, rd_S, rd_C, put_S, cells_agg, List.replicate_succ, List.replicate_zero, List.set_cons_zero, List.set_cons_succ, List.getElem?_cons_zero, Option.getD_some, Nat.reduceSub, List.cons_append, List.nil_append, ↓AW_toScope]
    refine ScopeK.by (α := Unit) 73 (fun _ => False) (fun _ => []) (fun _ => A) (fun _ => 0) 1 ?_ (fun _ h => h.elim)
    have hm0 : (A ++ [AObj.mp (mG [] (fun _ => (0, 0)))])[A.length]? = some (.mp (mG [] (fun _ => (0, 0)))) := mp_new _ _
    have hms := msG hm0 (q := a) (by simp) (-1) (-1)
    have hnil : (mG [] (fun _ => (0, 0))) = [] := rfl
    rw [hnil, List.nil_append] at hms
    simp (maxSteps := 4000000) -implicitDefEqProofs -dsimp (disch := omega) only [↓AW_ops, ↓AW_seq, ↓AW_block, ↓AOps_nil, ↓AOps_pu, ↓AOps_ha, on_some, extK_false, extK_app, ↓then_normal, pval, hval_blds, hval_mset, hval_mkm, rd_S, rd_C, put_S, putS_none, ↓AW_toLoop, cells_int, splice, fillA, repl, eq_self, List.set_cons_zero, List.set_cons_succ, List.getElem?_cons_zero, List.getElem?_cons_succ, List.drop_zero, List.drop_succ_cons, List.drop_nil, List.take_zero, List.take_succ_cons, Option.getD_some, Option.map_some, map_c, map_n, List.length_cons, List.length_nil, Nat.reduceAdd, Nat.reduceLeDiff, Nat.zero_add, List.cons_append, List.nil_append, List.append_nil, if_true, and_true, Int.reduceNeg, ↓AW_label, hms, AW_label]
    have hlen : ((A ++ [AObj.mp []]).set A.length (.mp (mG [a] (updG (fun _ => (0, 0)) a (-1, -1))))).length = A.length + 1 := by simp
    have hbf : BF rs P A a c [a] (updG (fun _ => (0, 0)) a (-1, -1)) [a] (.sl 1 ((A ++ [AObj.mp []]).set A.length (.mp (mG [a] (updG (fun _ => (0, 0)) a (-1, -1))))).length 0 1 true) ((A ++ [AObj.mp []]).set A.length (.mp (mG [a] (updG (fun _ => (0, 0)) a (-1, -1)))) ++ [AObj.cells true [I a]]) := by
      have hp1 : A <+: (A ++ [AObj.mp []]).set A.length (.mp (mG [a] (updG (fun _ => (0, 0)) a (-1, -1)))) := pre_set (pre_app _ _) (Nat.le_refl _) _
      have hm1 : ((A ++ [AObj.mp []]).set A.length (.mp (mG [a] (updG (fun _ => (0, 0)) a (-1, -1)))))[A.length]? = some (.mp (mG [a] (updG (fun _ => (0, 0)) a (-1, -1)))) := List.getElem?_set_self (by simp)
      refine ⟨hp1.trans (pre_app _ _), pre_get (pre_app _ _) hm1, ⟨⟨_, true, [], [], rfl, mp_new _ _, by omega, by omega, fun _ => rfl⟩⟩, .base, fun p hp => hp, fun p hp hn => absurd hp hn, Nat.le_refl _⟩
    refine LoopK.by 73 (fun x : List Int × (Int → Int × Int) × List Int × AV × AHeap => BF rs P A a c x.1 x.2.1 x.2.2.1 x.2.2.2.1 x.2.2.2.2) (fun x => [(2, I c), (3, .agg [I P, u]), (7, .mp A.length), (8, x.2.2.2.1)]) (fun x => x.2.2.2.2) (fun x => 2 * (P - x.1.length) + x.2.2.1.length) (_, _, _, _, _) hbf rfl (by simp [Has, rd_s]) rfl ?_
    rintro ⟨ks, g, qs, y, H⟩ hb
    simp only at hb
    have hkP := hb.le hn ha
    have hls := hb.q.ls
    cases qs with
    | nil =>
      have hlen0 : lenA y = some (I 0) := by have := hls.len; simpa using this
      simp (maxSteps := 4000000) -implicitDefEqProofs -dsimp (disch := omega) only [↓AW_ops, ↓AW_seq, ↓AW_cond, ↓AW_exit, ↓AW_ret, ↓AOps_nil, ↓AOps_pu, on_some, condB_f, ↓then_normal, ↓then_exit, ↓inBlock_exit, ↓FinR_ret, pval, rd_S, rd_C, put_S, resV, resL, eq_self, mk, List.foldl_cons, List.foldl_nil, List.replicate_succ, List.replicate_zero, List.set_cons_zero, List.set_cons_succ, List.getElem?_cons_zero, List.getElem?_cons_succ, Option.getD_some, List.length_cons, List.length_nil, Nat.reduceAdd, Nat.reduceLeDiff, Nat.zero_add, bin_gtr, if_true, if_false, decide_false, true_and, reduceCtorEq, Int.reduceLT, ↓inScope_exit, ↓inScope_ret, hlen0]
      refine ⟨_, _, gc_all, rfl, hb.pre, ks, g, hb.mp, hb.bt, fun p => ⟨hb.bt.cn p, clo_all hb.bt.mem (fun x hx => hb.cl x hx (by simp))⟩⟩
    | cons p qs =>
      have hlen1 := hls.len
      obtain ⟨hi0, hl0⟩ := l1_at0 hls
      have huH := hu.mono hb.pre
      have hpk := hb.sub p (by simp)
      have hgt : (0 : Int) < ((p :: qs).length : Nat) := by simp only [List.length_cons]; omega
      have hN1 : (p :: qs).length = qs.length + 1 := rfl
      generalize (p :: qs).length = N at hlen1 hgt hN1 ⊢
      simp (maxSteps := 4000000) -implicitDefEqProofs -dsimp (disch := omega) only [↓AW_skip, ↓AW_ops, ↓AW_seq, ↓AW_cond, ↓AW_block, ↓AOps_nil, ↓AOps_pu, ↓AOps_ld, on_some, condB_t, ↓then_normal, pval, lval_ld, rd_S, rd_C, put_S, ↓AW_toLoop, chkd, isAdr, bgot, cells_agg, partA, eq_self, mk, List.foldl_cons, List.foldl_nil, List.replicate_succ, List.replicate_zero, List.set_cons_zero, List.set_cons_succ, List.getElem?_cons_zero, List.getElem?_cons_succ, List.drop_zero, List.drop_succ_cons, List.take_succ_cons, List.take_nil, Option.getD_some, List.length_cons, List.length_nil, Nat.reduceAdd, Nat.reduceLeDiff, Nat.zero_add, bin_gtr, if_true, if_false, Bool.false_eq_true, decide_true, hlen1, hgt, hi0, hl0, huH.len]
      refine LoopK.by 73 (fun j : Nat => j ≤ rs.length ∧ ∀ k q, k < (j : Int) → jn rs c k p q → q ∈ ks) (fun j => [(2, I c), (3, .agg [I P, u]), (7, .mp A.length), (8, y), (9, I p), (28, u), (29, I rs.length), (30, I j)]) (fun _ => H) (fun j => rs.length - j) 0 ⟨by omega, fun k q hk hj => by have := hj.1; omega⟩ rfl (by simp [Has, rd_s]) rfl ?_
      rintro j ⟨hj, hc⟩
      by_cases hlt : j < rs.length
      · obtain ⟨z, hz⟩ : ∃ z, rs[j]? = some z := ⟨_, List.getElem?_eq_getElem hlt⟩
        have hlt' : (j : Int) < rs.length := by omega
        obtain ⟨hr, _⟩ := rdx_at (rs := rs) (k := (j : Int)) (by omega) (by omega)
        rw [Int.toNat_natCast, hz] at hr
        have hze : z = rdx rs j := Option.some.inj hr
        have hwe : z.2.2 = wct rs j := by rw [hze]; rfl
        have hnext : (∀ q, jn rs c (j : Int) p q → q ∈ ks) → ∀ k q, k < ((j + 1 : Nat) : Int) → jn rs c k p q → q ∈ ks := fun h k q hk hjn => by
          by_cases hkj : k = (j : Int)
          · subst hkj; exact h q hjn
          · exact hc k q (by omega) hjn
        have hjz : ∀ q, jn rs c (j : Int) p q → z.2.2 ≤ c ∧ ((z.1 = p ∧ z.2.1 = q) ∨ (z.1 = q ∧ z.2.1 = p)) := by
          rintro q ⟨_, g1, g2⟩
          rw [hwe, hze]
          exact ⟨g1, g2⟩
        have hjn : ∀ q, z.2.2 ≤ c → ((z.1 = p ∧ z.2.1 = q) ∨ (z.1 = q ∧ z.2.1 = p)) → jn rs c (j : Int) p q := fun q g1 g2 => ⟨by omega, by rw [hwe] at g1; exact g1, by rw [hze] at g2; exact g2⟩
        by_cases hB : p = z.2.1
        · subst hB
          by_cases hA : z.1 ∈ ks
          · simp (maxSteps := 4000000) -implicitDefEqProofs -dsimp (disch := omega) only [↓AW_skip, ↓AW_ops, ↓AW_seq, ↓AW_cond, ↓AW_block, ↓AW_exit, ↓AW_ret, ↓AOps_nil, ↓AOps_pu, ↓AOps_ld, ↓AOps_guard, on_some, guardB_tf, skipS_some, condB_t, ↓then_normal, ↓then_exit, ↓inBlock_exit, ↓FinR_ret, pval, lval_ld, lval_look, rd_S, rd_C, put_S, resV, resL, chkd, isAdr, bput, bgot, cells_agg, splice, partA, eq_self, mk, List.foldl_cons, List.foldl_nil, List.replicate_succ, List.replicate_zero, List.set_cons_zero, List.set_cons_succ, List.getElem?_cons_zero, List.getElem?_cons_succ, List.drop_zero, List.drop_succ_cons, List.drop_nil, List.take_zero, List.take_succ_cons, List.take_nil, Option.getD_some, Option.map_some, Option.map_none, List.length_cons, List.length_nil, Nat.reduceAdd, Nat.reduceLeDiff, Nat.reduceEqDiff, Nat.zero_add, List.nil_append, List.append_nil, bin_add, bin_eql, bin_lss, w64, if_true, if_false, Bool.false_eq_true, decide_true, true_and, reduceCtorEq, ne_eq, not_true_eq_false, ↓inScope_exit, ↓inScope_ret, hlt', huH.idx hlt, huH.ld0 hz 3 true (by decide), e3, (lkG hb.mp z.1).1 hA]
            refine ⟨j + 1, ⟨hlt, hnext (fun q hq => ?_)⟩, by simp [Has, rd_s], by omega⟩
            rcases (hjz q hq).2 with ⟨_, g2⟩ | ⟨g1, _⟩
            · rw [← g2]; exact hpk
            · rw [← g1]; exact hA
          · by_cases hw : z.2.2 ≤ c
            · have hw2 : ¬ c < z.2.2 := by omega
              obtain ⟨y', H2, happ, hb2⟩ := hb.push hn ha hA hpk (hjn z.1 hw (.inr ⟨rfl, rfl⟩))
              have hle2 := hb2.le hn ha
              rw [List.length_append, List.length_singleton] at hle2
              simp (maxSteps := 4000000) -implicitDefEqProofs -dsimp (disch := omega) only [↓AW_skip, ↓AW_ops, ↓AW_seq, ↓AW_cond, ↓AW_block, ↓AW_exit, ↓AW_ret, ↓AOps_nil, ↓AOps_pu, ↓AOps_ld, ↓AOps_ha, ↓AOps_guard, on_some, extK_false, extK_app, guardB_ff, condB_t, condB_f, ↓then_normal, ↓then_exit, ↓inBlock_exit, ↓FinR_ret, pval, lval_ld, lval_look, hval_blds, hval_app, hval_mset, rd_S, rd_C, put_S, putS_none, resV, resL, chkd, isAdr, bput, bgot, cells_agg, cells_int, splice, partA, fillA, repl, eq_self, mk, List.foldl_cons, List.foldl_nil, List.replicate_succ, List.replicate_zero, List.set_cons_zero, List.set_cons_succ, List.getElem?_cons_zero, List.getElem?_cons_succ, List.drop_zero, List.drop_succ_cons, List.drop_nil, List.take_zero, List.take_succ_cons, List.take_nil, Option.getD_some, Option.map_some, Option.map_none, map_c, map_n, List.length_cons, List.length_nil, Nat.reduceAdd, Nat.reduceLeDiff, Nat.reduceEqDiff, Nat.zero_add, List.cons_append, List.nil_append, List.append_nil, bin_add, bin_eql, bin_lss, bin_gtr, w64, if_true, if_false, Bool.false_eq_true, decide_true, decide_false, true_and, and_true, reduceCtorEq, ne_eq, not_true_eq_false, ↓inScope_exit, ↓inScope_ret, hlt', huH.idx hlt, huH.ld0 hz 3 true (by decide), e3, (lkG hb.mp z.1).2 hA, hw2, msG hb.mp hA (j : Int) z.2.1, happ, List.replicate_zero, repl]
              exact ⟨(_, _, _, _, _), hb2, by simp [Has, rd_s], rfl, by simp only [List.length_append, List.length_cons, List.length_nil]; omega⟩
            · have hw2 : c < z.2.2 := by omega
              simp (maxSteps := 4000000) -implicitDefEqProofs -dsimp (disch := omega) only [↓AW_skip, ↓AW_ops, ↓AW_seq, ↓AW_cond, ↓AW_block, ↓AW_exit, ↓AW_ret, ↓AOps_nil, ↓AOps_pu, ↓AOps_ld, ↓AOps_guard, on_some, guardB_ff, condB_t, ↓then_normal, ↓then_exit, ↓inBlock_exit, ↓FinR_ret, pval, lval_ld, lval_look, rd_S, rd_C, put_S, resV, resL, chkd, isAdr, bput, bgot, cells_agg, splice, partA, eq_self, mk, List.foldl_cons, List.foldl_nil, List.replicate_succ, List.replicate_zero, List.set_cons_zero, List.set_cons_succ, List.getElem?_cons_zero, List.getElem?_cons_succ, List.drop_zero, List.drop_succ_cons, List.drop_nil, List.take_zero, List.take_succ_cons, List.take_nil, Option.getD_some, Option.map_some, Option.map_none, List.length_cons, List.length_nil, Nat.reduceAdd, Nat.reduceLeDiff, Nat.reduceEqDiff, Nat.zero_add, List.nil_append, List.append_nil, bin_add, bin_eql, bin_lss, bin_gtr, w64, if_true, if_false, Bool.false_eq_true, decide_true, true_and, reduceCtorEq, ne_eq, not_true_eq_false, ↓inScope_exit, ↓inScope_ret, hlt', huH.idx hlt, huH.ld0 hz 3 true (by decide), e3, (lkG hb.mp z.1).2 hA, hw2]
              exact ⟨j + 1, ⟨hlt, hnext (fun q hq => absurd (hjz q hq).1 hw)⟩, by simp [Has, rd_s], by omega⟩
        · by_cases hA2 : p = z.1
          case neg =>
            simp (maxSteps := 4000000) -implicitDefEqProofs -dsimp (disch := omega) only [↓AW_skip, ↓AW_ops, ↓AW_seq, ↓AW_cond, ↓AW_block, ↓AW_exit, ↓AW_ret, ↓AOps_nil, ↓AOps_pu, ↓AOps_ld, on_some, condB_t, condB_f, ↓then_normal, ↓then_exit, ↓inBlock_exit, ↓FinR_ret, pval, lval_ld, rd_S, rd_C, put_S, resV, resL, chkd, isAdr, bput, bgot, cells_agg, splice, partA, eq_self, mk, List.foldl_cons, List.foldl_nil, List.replicate_succ, List.replicate_zero, List.set_cons_zero, List.set_cons_succ, List.getElem?_cons_zero, List.getElem?_cons_succ, List.drop_zero, List.drop_succ_cons, List.drop_nil, List.take_zero, List.take_succ_cons, List.take_nil, Option.getD_some, Option.map_some, Option.map_none, List.length_cons, List.length_nil, Nat.reduceAdd, Nat.reduceLeDiff, Nat.reduceEqDiff, Nat.zero_add, List.nil_append, List.append_nil, bin_add, bin_eql, bin_neq, bin_lss, w64, if_true, if_false, Bool.false_eq_true, decide_true, decide_false, true_and, reduceCtorEq, ne_eq, not_true_eq_false, not_false_eq_true, ↓inScope_exit, ↓inScope_ret, hlt', huH.idx hlt, huH.ld0 hz 3 true (by decide), e3, hB, hA2]
            refine ⟨j + 1, ⟨hlt, hnext (fun q hq => ?_)⟩, by simp [Has, rd_s], by omega⟩
            rcases (hjz q hq).2 with ⟨g1, _⟩ | ⟨_, g2⟩
            · exact absurd g1.symm hA2
            · exact absurd g2.symm hB
          subst hA2
          by_cases hA : z.2.1 ∈ ks
          · simp (maxSteps := 4000000) -implicitDefEqProofs -dsimp (disch := omega) only [↓AW_skip, ↓AW_ops, ↓AW_seq, ↓AW_cond, ↓AW_block, ↓AW_exit, ↓AW_ret, ↓AOps_nil, ↓AOps_pu, ↓AOps_ld, ↓AOps_guard, on_some, guardB_tf, skipS_some, condB_t, condB_f, ↓then_normal, ↓then_exit, ↓inBlock_exit, ↓FinR_ret, pval, lval_ld, lval_look, rd_S, rd_C, put_S, resV, resL, chkd, isAdr, bput, bgot, cells_agg, splice, partA, eq_self, mk, List.foldl_cons, List.foldl_nil, List.replicate_succ, List.replicate_zero, List.set_cons_zero, List.set_cons_succ, List.getElem?_cons_zero, List.getElem?_cons_succ, List.drop_zero, List.drop_succ_cons, List.drop_nil, List.take_zero, List.take_succ_cons, List.take_nil, Option.getD_some, Option.map_some, Option.map_none, List.length_cons, List.length_nil, Nat.reduceAdd, Nat.reduceLeDiff, Nat.reduceEqDiff, Nat.zero_add, List.nil_append, List.append_nil, bin_add, bin_eql, bin_neq, bin_lss, w64, if_true, if_false, Bool.false_eq_true, decide_true, decide_false, true_and, reduceCtorEq, ne_eq, not_true_eq_false, ↓inScope_exit, ↓inScope_ret, hlt', huH.idx hlt, huH.ld0 hz 3 true (by decide), e3, hB, (lkG hb.mp z.2.1).1 hA]
            refine ⟨j + 1, ⟨hlt, hnext (fun q hq => ?_)⟩, by simp [Has, rd_s], by omega⟩
            rcases (hjz q hq).2 with ⟨_, g2⟩ | ⟨_, g2⟩
            · rw [← g2]; exact hA
            · exact absurd g2.symm hB
          · by_cases hw : z.2.2 ≤ c
            · have hw2 : ¬ c < z.2.2 := by omega
              obtain ⟨y', H2, happ, hb2⟩ := hb.push hn ha hA hpk (hjn z.2.1 hw (.inl ⟨rfl, rfl⟩))
              have hle2 := hb2.le hn ha
              rw [List.length_append, List.length_singleton] at hle2
              simp (maxSteps := 4000000) -implicitDefEqProofs -dsimp (disch := omega) only [↓AW_skip, ↓AW_ops, ↓AW_seq, ↓AW_cond, ↓AW_block, ↓AW_exit, ↓AW_ret, ↓AOps_nil, ↓AOps_pu, ↓AOps_ld, ↓AOps_ha, ↓AOps_guard, on_some, extK_false, extK_app, guardB_ff, condB_t, condB_f, ↓then_normal, ↓then_exit, ↓inBlock_exit, ↓FinR_ret, pval, lval_ld, lval_look, hval_blds, hval_app, hval_mset, rd_S, rd_C, put_S, putS_none, resV, resL, chkd, isAdr, bput, bgot, cells_agg, cells_int, splice, partA, fillA, repl, eq_self, mk, List.foldl_cons, List.foldl_nil, List.replicate_succ, List.replicate_zero, List.set_cons_zero, List.set_cons_succ, List.getElem?_cons_zero, List.getElem?_cons_succ, List.drop_zero, List.drop_succ_cons, List.drop_nil, List.take_zero, List.take_succ_cons, List.take_nil, Option.getD_some, Option.map_some, Option.map_none, map_c, map_n, List.length_cons, List.length_nil, Nat.reduceAdd, Nat.reduceLeDiff, Nat.reduceEqDiff, Nat.zero_add, List.cons_append, List.nil_append, List.append_nil, bin_add, bin_eql, bin_neq, bin_lss, bin_gtr, w64, if_true, if_false, Bool.false_eq_true, decide_true, decide_false, true_and, and_true, reduceCtorEq, ne_eq, not_true_eq_false, ↓inScope_exit, ↓inScope_ret, hlt', huH.idx hlt, huH.ld0 hz 3 true (by decide), e3, hB, (lkG hb.mp z.2.1).2 hA, hw2, msG hb.mp hA (j : Int) z.1, happ, List.replicate_zero, repl]
              exact ⟨(_, _, _, _, _), hb2, by simp [Has, rd_s], rfl, by simp only [List.length_append, List.length_cons, List.length_nil]; omega⟩
            · have hw2 : c < z.2.2 := by omega
              simp (maxSteps := 4000000) -implicitDefEqProofs -dsimp (disch := omega) only [↓AW_skip, ↓AW_ops, ↓AW_seq, ↓AW_cond, ↓AW_block, ↓AW_exit, ↓AW_ret, ↓AOps_nil, ↓AOps_pu, ↓AOps_ld, ↓AOps_guard, on_some, guardB_ff, condB_t, condB_f, ↓then_normal, ↓then_exit, ↓inBlock_exit, ↓FinR_ret, pval, lval_ld, lval_look, rd_S, rd_C, put_S, resV, resL, chkd, isAdr, bput, bgot, cells_agg, splice, partA, eq_self, mk, List.foldl_cons, List.foldl_nil, List.replicate_succ, List.replicate_zero, List.set_cons_zero, List.set_cons_succ, List.getElem?_cons_zero, List.getElem?_cons_succ, List.drop_zero, List.drop_succ_cons, List.drop_nil, List.take_zero, List.take_succ_cons, List.take_nil, Option.getD_some, Option.map_some, Option.map_none, List.length_cons, List.length_nil, Nat.reduceAdd, Nat.reduceLeDiff, Nat.reduceEqDiff, Nat.zero_add, List.nil_append, List.append_nil, bin_add, bin_eql, bin_neq, bin_lss, bin_gtr, w64, if_true, if_false, Bool.false_eq_true, decide_true, decide_false, true_and, reduceCtorEq, ne_eq, not_true_eq_false, ↓inScope_exit, ↓inScope_ret, hlt', huH.idx hlt, huH.ld0 hz 3 true (by decide), e3, hB, (lkG hb.mp z.2.1).2 hA, hw2]
              exact ⟨j + 1, ⟨hlt, hnext (fun q hq => absurd (hjz q hq).1 hw)⟩, by simp [Has, rd_s], by omega⟩
      · have hlt' : ¬ ((j : Int) < rs.length) := by omega
        obtain ⟨y', hs, hb2⟩ := hb.pop (fun k q hq => hc k q (by have := hq.1; omega) hq)
        simp (maxSteps := 4000000) -implicitDefEqProofs -dsimp (disch := omega) only [↓AW_ops, ↓AW_seq, ↓AW_cond, ↓AW_exit, ↓AW_ret, ↓AOps_nil, ↓AOps_pu, on_some, condB_f, ↓then_normal, ↓then_exit, ↓inBlock_normal, ↓inBlock_exit, ↓FinR_ret, pval, rd_S, rd_C, put_S, resV, resL, eq_self, mk, List.foldl_cons, List.foldl_nil, List.replicate_succ, List.replicate_zero, List.set_cons_zero, List.set_cons_succ, List.getElem?_cons_zero, List.getElem?_cons_succ, Option.getD_some, Option.map_some, Option.map_none, List.length_cons, List.length_nil, Nat.reduceAdd, Nat.reduceLeDiff, Nat.reduceEqDiff, Nat.zero_add, bin_lss, if_true, if_false, decide_false, true_and, reduceCtorEq, ↓inScope_exit, ↓inScope_ret, hlt', hs]
        exact ⟨(_, _, _, _, _), hb2, by simp [Has, rd_s], rfl, by simp only []; omega⟩
  obtain ⟨r, H, h1, rfl, h2⟩ := key
  exact ⟨H, h1, h2⟩
end
end Go.Proofs.Ytkgfcdpckfhknaa

namespace Go.Proofs.Ytkgfcdpckfhknaa
open Go Go.Eng
/-- The error of a search for a wall. -/
def hE (Q : Int) (rs : List Rd) (a b c : Int) : Int := if pE Q rs a b = 0 then (if 0 ≤ c ∧ c ≤ 99 then 0 else 1) else pE Q rs a b
noncomputable def hB (Q : Int) (rs : List Rd) (a b c : Int) : Bool := decide (hE Q rs a b c = 0 ∧ ¬ cnT rs (nums rs) c a b)
/-- The places that are reached. -/
noncomputable def rS (P : Nat) (rs : List Rd) (a c : Int) : List Int := (plc P).filter (fun p => decide (cnT rs (nums rs) c a p))
theorem hE_0 {Q : Int} {rs : List Rd} {a b c : Int} : hE Q rs a b c = 0 ↔ pE Q rs a b = 0 ∧ 0 ≤ c ∧ c ≤ 99 := by
  unfold hE
  by_cases h : pE Q rs a b = 0
  · rw [if_pos h]
    by_cases h2 : 0 ≤ c ∧ c ≤ 99
    · rw [if_pos h2]; exact ⟨fun _ => ⟨h, h2⟩, fun _ => rfl⟩
    · rw [if_neg h2]; exact ⟨fun e => absurd e (by decide), fun e => absurd e.2 h2⟩
  · rw [if_neg h]; exact ⟨fun e => absurd e h, fun e => absurd e.1 h⟩
theorem orE_w (x : Int) (p : Prop) [Decidable p] : orE [x, if p then 0 else 1] = if x = 0 then (if p then 0 else 1) else x := by
  unfold orE orE orE
  by_cases h : p
  · simp [h]
  · simp [h]
theorem mem_rS {P : Nat} {rs : List Rd} {a c p : Int} : p ∈ rS P rs a c ↔ (0 ≤ p ∧ p < P) ∧ cnT rs (nums rs) c a p := by
  unfold rS
  rw [List.mem_filter, mem_plc, decide_eq_true_eq]
theorem plc_okS (P : Nat) : okS P (plc P) := by
  refine ⟨fun x hx => by have := mem_plc.1 hx; omega, ?_⟩
  unfold plc
  rw [List.pairwise_map]
  refine List.pairwise_lt_range.imp (fun h => ?_)
  show (_ : Int) < _
  exact Int.ofNat_lt.2 h
theorem rS_wall {P : Nat} {rs : List Rd} {a b c : Int} (h : hE P rs a b c = 0) (hn : ¬ cnT rs (nums rs) c a b) : xE P rs a b c (rS P rs a c) = 0 := by
  obtain ⟨h1, h2⟩ := hE_0.1 h
  obtain ⟨hN, ha, hb⟩ := pE_0.1 h1
  have hok := plc_okS P
  refine xE_0.2 ⟨h1, ⟨⟨fun x hx => hok.1 x (List.mem_filter.1 hx).1, hok.2.sublist List.filter_sublist⟩, h2⟩, ⟨mem_rS.2 ⟨by omega, .refl _⟩, fun hh => hn (mem_rS.1 hh).2⟩, fun r hr hx => ?_⟩
  obtain ⟨hx1, hx2⟩ := hx
  refine hx1 ?_
  have hK := hN.r r hr
  have h3 : Cn ((upTo (wct rs) (nums rs) c).map (rdx rs)) r.1 r.2.1 := (cnT_all (xs := rs)).2 (Cn.one (List.mem_filter.2 ⟨hr, decide_eq_true hx2⟩))
  rw [decide_eq_decide, mem_rS, mem_rS]
  constructor
  · rintro ⟨_, g⟩
    exact ⟨by have := hK.1.2; omega, Cn.trans g h3⟩
  · rintro ⟨_, g⟩
    exact ⟨by have := hK.1.1; omega, Cn.trans g h3.symm⟩
section
variable {Q : Int} {rs : List Rd} {ks : List Int} {u v : AV} {A : AHeap} {a b c : Int}
theorem s85 (hu : L3 A u rs) (hP : W Q) (a b c : Int) : ACalls Try.prog 85 [.agg [I Q, u], I a, I b, I c] A (I (hE Q rs a b c)) A := by
  refine acalls hmix Try.func85 (by kernel_rfl) t85 4 rfl (by decide) ?_
  dsimp only [m85]
  simp (maxSteps := 4000000) -implicitDefEqProofs -dsimp (disch := omega) only [↓AW_ops, ↓AW_seq, ↓AOps_nil, ↓AOps_pu, ↓AOps_call, on_some, ↓then_normal, pval, rd_S, rd_C, put_S, chkd, bgot, AV.cells?, partA, eq_self, List.replicate_succ, List.replicate_zero, List.set_cons_zero, List.set_cons_succ, List.getElem?_cons_zero, List.getElem?_cons_succ, List.drop_zero, List.take_succ_cons, List.take_nil, Option.getD_some, map_c, map_n, List.length_cons, List.length_nil, Nat.reduceAdd, Nat.reduceSub, Nat.reduceLeDiff, Nat.reduceEqDiff, Nat.zero_add, List.cons_append, List.nil_append, if_true, if_false]
  refine CallK.of (s72 hu hP a b) ?_
  simp (maxSteps := 4000000) -implicitDefEqProofs -dsimp (disch := omega) only [↓AOps_pu, ↓AOps_call, on_some, extK_same, pval, rd_S, put_S, List.replicate_succ, List.replicate_zero, List.set_cons_zero, List.set_cons_succ, List.getElem?_cons_zero, List.getElem?_cons_succ, Option.getD_some, map_c, map_n, Nat.reduceSub, List.cons_append, List.nil_append]
  refine CallK.of (s83 c A) ?_
  simp (maxSteps := 4000000) -implicitDefEqProofs -dsimp (disch := omega) only [↓AOps_ha, ↓AOps_call, on_some, extK_app, extK_same, hval, rd_S, put_S, AV.cells?, splice, fillA, repl, eq_self, List.replicate_succ, List.replicate_zero, List.set_cons_zero, List.set_cons_succ, List.getElem?_cons_zero, List.getElem?_cons_succ, List.drop_zero, List.drop_succ_cons, List.drop_nil, List.take_zero, List.take_succ_cons, Option.getD_some, map_c, map_n, List.length_cons, List.length_nil, Nat.reduceAdd, Nat.reduceSub, Nat.reduceLeDiff, Nat.zero_add, List.cons_append, List.nil_append, List.append_nil, if_true, and_true, List.replicate_zero, repl]
  refine CallK.of (s57 (L1_two A _ _) (by simp)) ?_
  rw [orE_w]
  simp (maxSteps := 4000000) -implicitDefEqProofs -dsimp (disch := omega) only [↓AW_ret, ↓AOps_nil, ↓AOps_pu, on_some, extK_same, ↓then_normal, ↓Fin_ret, pval, rd_S, put_S, resV, resL, List.replicate_succ, List.replicate_zero, List.set_cons_zero, List.set_cons_succ, List.getElem?_cons_zero, List.getElem?_cons_succ, Option.getD_some, Nat.reduceSub, List.cons_append, List.nil_append]
  exact gc_val (pre_app _ _) rfl
set_option maxRecDepth 20000 in
set_option maxHeartbeats 16000000 in
theorem s39 (hu : L3 A u rs) (hP : W Q) (a b c : Int) : ∃ r H, ACalls Try.prog 39 [.agg [I Q, u], I a, I b, I c] A (.tuple [r, B (hB Q rs a b c), I (hE Q rs a b c)]) H ∧ A <+: H ∧ ((hB Q rs a b c = true → L1 H r (rS Q.toNat rs a c)) ∧ (hB Q rs a b c = false → r = .nilS)) := by
  have key : ∃ t H, ACalls Try.prog 39 [.agg [I Q, u], I a, I b, I c] A t H ∧ ∃ r, t = .tuple [r, B (hB Q rs a b c), I (hE Q rs a b c)] ∧ A <+: H ∧ ((hB Q rs a b c = true → L1 H r (rS Q.toNat rs a c)) ∧ (hB Q rs a b c = false → r = .nilS)) := by
    refine acallsR hmix Try.func39 (by kernel_rfl) t39 _ 4 rfl (by decide) ?_
    dsimp only [m39]
    simp (maxSteps := 4000000) -implicitDefEqProofs -dsimp (disch := omega) only [↓AW_ops, ↓AW_seq, ↓AOps_nil, ↓AOps_pu, ↓AOps_call, on_some, ↓then_normal, pval, rd_S, rd_C, put_S, chkd, bgot, cells_agg, partA, eq_self, List.replicate_succ, List.replicate_zero, List.set_cons_zero, List.set_cons_succ, List.getElem?_cons_zero, List.getElem?_cons_succ, List.drop_zero, List.take_succ_cons, List.take_nil, Option.getD_some, map_c, map_n, List.length_cons, List.length_nil, Nat.reduceAdd, Nat.reduceSub, Nat.reduceLeDiff, Nat.reduceEqDiff, Nat.zero_add, List.cons_append, List.nil_append, if_true, if_false]
    refine CallK.of (s85 hu hP a b c) ?_
    by_cases h0 : hE Q rs a b c = 0
    case neg =>
      have hb1 : hB Q rs a b c = false := decide_eq_false (fun h => h0 h.1)
      rw [hb1]
      simp (maxSteps := 4000000) -implicitDefEqProofs -dsimp (disch := omega) only [↓AW_ops, ↓AW_seq, ↓AW_cond, ↓AW_ret, ↓AOps_nil, ↓AOps_pu, on_some, extK_same, condB_t, ↓then_normal, ↓then_ret, ↓FinR_ret, pval, rd_S, rd_C, put_S, resV, resL, eq_self, List.replicate_succ, List.replicate_zero, List.set_cons_zero, List.set_cons_succ, List.getElem?_cons_zero, List.getElem?_cons_succ, Option.getD_some, Nat.reduceSub, List.cons_append, List.nil_append, bin_neq, Bool.false_eq_true, decide_true, forall_const, true_and, false_implies, not_false_eq_true, h0]
      exact ⟨_, _, gc_same rfl, _, rfl, List.prefix_refl _, rfl⟩
    obtain ⟨h1, h2⟩ := hE_0.1 h0
    obtain ⟨hn, ha, hb⟩ := pE_0.1 h1
    obtain ⟨P, rfl⟩ := hn.nat
    have hp7 := hn.p7
    rw [h0, Int.toNat_natCast]
    simp (maxSteps := 4000000) -implicitDefEqProofs -dsimp (disch := omega) only [↓AW_skip, ↓AW_ops, ↓AW_seq, ↓AW_cond, ↓AOps_nil, ↓AOps_pu, ↓AOps_call, on_some, extK_same, condB_f, ↓then_normal, pval, rd_S, rd_C, put_S, chkd, bgot, partA, eq_self, List.replicate_succ, List.replicate_zero, List.set_cons_zero, List.set_cons_succ, List.getElem?_cons_zero, List.getElem?_cons_succ, List.drop_zero, List.take_succ_cons, List.take_nil, Option.getD_some, map_c, map_n, List.length_cons, List.length_nil, Nat.reduceAdd, Nat.reduceSub, Nat.reduceLeDiff, Nat.reduceEqDiff, Nat.zero_add, List.cons_append, List.nil_append, bin_neq, if_true, if_false, decide_false, not_true_eq_false]
    obtain ⟨H, hc, hp, kk, g, hm, hbt, hiff⟩ := c_reached (c := c) hu hn (a := a) (by omega)
    refine CallK.of hc ?_
    by_cases hcn : cnT rs (nums rs) c a b
    · have hb1 : hB P rs a b c = false := decide_eq_false (fun h => h.2 hcn)
      rw [hb1]
      simp (maxSteps := 4000000) -implicitDefEqProofs -dsimp (disch := omega) only [↓AW_ops, ↓AW_seq, ↓AW_cond, ↓AW_ret, ↓AOps_nil, ↓AOps_pu, ↓AOps_ld, on_some, extK_false, condB_t, ↓then_normal, ↓then_ret, ↓FinR_ret, pval, lval_look, rd_S, rd_C, put_S, resV, resL, chkd, bput, cells_agg, splice, eq_self, List.replicate_succ, List.replicate_zero, List.set_cons_zero, List.set_cons_succ, List.getElem?_cons_zero, List.getElem?_cons_succ, List.drop_succ_cons, List.drop_nil, List.take_zero, Option.getD_some, List.length_cons, List.length_nil, Nat.reduceAdd, Nat.reduceSub, Nat.reduceLeDiff, Nat.zero_add, List.cons_append, List.nil_append, List.append_nil, if_true, if_false, Bool.false_eq_true, forall_const, true_and, false_implies, ne_eq, not_true_eq_false, (lkG hm b).1 ((hiff b).2 hcn)]
      exact ⟨_, _, gc_val hp rfl, _, rfl, List.prefix_refl _, rfl⟩
    have hb1 : hB P rs a b c = true := decide_eq_true ⟨h0, hcn⟩
    rw [hb1]
    simp (maxSteps := 4000000) -implicitDefEqProofs -dsimp (disch := omega) only [↓AW_skip, ↓AW_ops, ↓AW_seq, ↓AW_cond, ↓AW_block, ↓AOps_nil, ↓AOps_pu, ↓AOps_ld, on_some, extK_false, condB_f, ↓then_normal, pval, lval_look, rd_S, rd_C, put_S, ↓AW_toLoop, chkd, isAdr, bput, bgot, cells_agg, splice, partA, eq_self, List.replicate_succ, List.replicate_zero, List.set_cons_zero, List.set_cons_succ, List.getElem?_cons_zero, List.getElem?_cons_succ, List.drop_zero, List.drop_succ_cons, List.drop_nil, List.take_zero, List.take_succ_cons, Option.getD_some, List.length_cons, List.length_nil, Nat.reduceAdd, Nat.reduceSub, Nat.reduceLeDiff, Nat.zero_add, List.cons_append, List.nil_append, List.append_nil, if_true, if_false, Bool.false_eq_true, ne_eq, not_true_eq_false, (lkG hm b).2 (fun h => hcn ((hiff b).1 h))]
    refine LoopK.by 56 (fun x : Nat × AV × AHeap => x.1 ≤ P ∧ AccL 1 e1 H x.2.2 x.2.1 (rS x.1 rs a c)) (fun x => [(12, .mp A.length), (15, x.2.1), (39, I P), (40, I x.1)]) (fun x => x.2.2) (fun x => P - x.1) (0, .nilS, H) ⟨by simp only; omega, AccL.nil (List.prefix_refl _)⟩ rfl (by simp [Has, rd_s]) rfl ?_
    rintro ⟨i, y, H1⟩ ⟨hi, hac⟩
    simp only at hi hac
    have hm1 := pre_get hac.1 hm
    by_cases hlt : i < P
    · have hlt' : (i : Int) < P := by omega
      have hfl := filt_len (fun p => decide (cnT rs (nums rs) c a p)) i
      have hsu := filt_succ (fun p => decide (cnT rs (nums rs) c a p)) i
      by_cases hq : cnT rs (nums rs) c a (i : Int)
      · rw [if_pos (decide_eq_true hq)] at hsu
        obtain ⟨v', H2, happ, hacc, _, n, len, rfl, _⟩ := AccL_push2 hac e1_len (by omega) (i : Int) (by unfold rS; simp only [lim]; omega)
        simp only [Go.Eng.e1] at happ
        simp (maxSteps := 4000000) -implicitDefEqProofs -dsimp (disch := omega) only [↓AW_skip, ↓AW_ops, ↓AW_seq, ↓AW_cond, ↓AW_block, ↓AOps_nil, ↓AOps_pu, ↓AOps_ld, ↓AOps_ha, on_some, extK_false, extK_app, condB_t, ↓then_normal, ↓inBlock_normal, pval, lval_look, hval_blds, hval_app, rd_S, rd_C, put_S, chkd, bput, cells_agg, cells_int, splice, fillA, repl, eq_self, mk, List.foldl_cons, List.foldl_nil, List.replicate_succ, List.replicate_zero, List.set_cons_zero, List.set_cons_succ, List.getElem?_cons_zero, List.getElem?_cons_succ, List.drop_succ_cons, List.drop_nil, List.take_zero, Option.getD_some, map_c, map_n, List.length_cons, List.length_nil, Nat.reduceAdd, Nat.reduceLeDiff, Nat.zero_add, List.nil_append, List.append_nil, bin_add, bin_lss, w64, if_true, if_false, decide_true, true_and, and_true, ne_eq, not_true_eq_false, hlt', (lkG hm1 i).1 ((hiff i).2 hq), happ, List.replicate_zero, repl]
        refine ⟨(i + 1, .sl 1 n 0 len false, H2), ⟨hlt, ?_⟩, by simp [Has, rd_s], rfl, by simp only; omega⟩
        simp only
        unfold rS
        rw [hsu]
        exact hacc
      · rw [if_neg (by simp [hq]), List.append_nil] at hsu
        simp (maxSteps := 4000000) -implicitDefEqProofs -dsimp (disch := omega) only [↓AW_skip, ↓AW_ops, ↓AW_seq, ↓AW_cond, ↓AW_block, ↓AOps_nil, ↓AOps_pu, ↓AOps_ld, on_some, condB_t, condB_f, ↓then_normal, ↓inBlock_normal, pval, lval_look, rd_S, rd_C, put_S, chkd, bput, cells_agg, splice, eq_self, mk, List.foldl_cons, List.foldl_nil, List.replicate_succ, List.replicate_zero, List.set_cons_zero, List.set_cons_succ, List.getElem?_cons_zero, List.getElem?_cons_succ, List.drop_succ_cons, List.drop_nil, List.take_zero, Option.getD_some, List.length_cons, List.length_nil, Nat.reduceAdd, Nat.reduceLeDiff, Nat.zero_add, List.nil_append, List.append_nil, bin_add, bin_lss, w64, if_true, if_false, decide_true, true_and, ne_eq, not_true_eq_false, hlt', (lkG hm1 i).2 (fun h => hq ((hiff i).1 h))]
        refine ⟨(i + 1, y, H1), ⟨hlt, ?_⟩, by simp [Has, rd_s], rfl, by simp only; omega⟩
        simp only
        unfold rS
        rw [hsu]
        exact hac
    · have hlt' : ¬ ((i : Int) < P) := by omega
      have hiP : i = P := by omega
      subst hiP
      simp (maxSteps := 4000000) -implicitDefEqProofs -dsimp (disch := omega) only [↓AW_ops, ↓AW_seq, ↓AW_cond, ↓AW_exit, ↓AW_ret, ↓AOps_nil, ↓AOps_pu, on_some, condB_f, ↓then_normal, ↓then_exit, ↓inBlock_exit, ↓FinR_ret, pval, rd_S, rd_C, put_S, resV, resL, eq_self, mk, List.foldl_cons, List.foldl_nil, List.replicate_succ, List.replicate_zero, List.set_cons_zero, List.set_cons_succ, List.getElem?_cons_zero, List.getElem?_cons_succ, Option.getD_some, bin_lss, if_true, decide_false, forall_const, and_true, false_implies, reduceCtorEq, hlt']
      exact ⟨_, _, gc_all, _, rfl, hp.trans hac.1, AccL_ls hac e1_len⟩
  obtain ⟨t, H, h1, r, rfl, h2⟩ := key
  exact ⟨r, H, h1, h2⟩
set_option maxRecDepth 20000 in
set_option maxHeartbeats 16000000 in
theorem s40 (hu : L3 A u rs) (hP : W Q) (a b c : Int) : ACalls Try.prog 40 [.agg [I Q, u], I a, I b, I c] A (.tuple [B (hB Q rs a b c), I (hE Q rs a b c)]) A := by
  refine acalls hmix Try.func40 (by kernel_rfl) t40 4 rfl (by decide) ?_
  dsimp only [m40]
  simp (maxSteps := 4000000) -implicitDefEqProofs -dsimp (disch := omega) only [↓AW_ops, ↓AW_seq, ↓AOps_nil, ↓AOps_pu, ↓AOps_call, on_some, ↓then_normal, pval, rd_S, rd_C, put_S, chkd, bgot, AV.cells?, partA, eq_self, List.replicate_succ, List.replicate_zero, List.set_cons_zero, List.set_cons_succ, List.getElem?_cons_zero, List.getElem?_cons_succ, List.drop_zero, List.take_succ_cons, List.take_nil, Option.getD_some, map_c, map_n, List.length_cons, List.length_nil, Nat.reduceAdd, Nat.reduceSub, Nat.reduceLeDiff, Nat.reduceEqDiff, Nat.zero_add, List.cons_append, List.nil_append, if_true, if_false]
  refine CallK.of (s77 hu hP a b) ?_
  by_cases h1 : pE Q rs a b = 0
  case neg =>
    have h0 : ¬ hE Q rs a b c = 0 := fun h => h1 (hE_0.1 h).1
    have e1 : hB Q rs a b c = false := decide_eq_false (fun h => h0 h.1)
    have e2 : hE Q rs a b c = pE Q rs a b := if_neg h1
    rw [e1, e2]
    simp (maxSteps := 4000000) -implicitDefEqProofs -dsimp (disch := omega) only [↓AW_ops, ↓AW_seq, ↓AW_cond, ↓AW_ret, ↓AOps_nil, ↓AOps_pu, on_some, extK_same, condB_t, ↓then_normal, ↓then_ret, ↓Fin_ret, pval, rd_S, rd_C, put_S, resV, resL, List.replicate_succ, List.replicate_zero, List.set_cons_zero, List.set_cons_succ, List.getElem?_cons_zero, List.getElem?_cons_succ, Option.getD_some, Nat.reduceSub, List.cons_append, List.nil_append, bin_neq, decide_true, not_false_eq_true, h1]
    exact gc_same rfl
  simp (maxSteps := 4000000) -implicitDefEqProofs -dsimp (disch := omega) only [↓AW_skip, ↓AW_ops, ↓AW_seq, ↓AW_cond, ↓AOps_nil, ↓AOps_pu, ↓AOps_call, on_some, extK_same, condB_f, ↓then_normal, pval, rd_S, rd_C, put_S, eq_self, List.replicate_succ, List.replicate_zero, List.set_cons_zero, List.set_cons_succ, List.getElem?_cons_zero, List.getElem?_cons_succ, Option.getD_some, map_c, map_n, Nat.reduceSub, List.cons_append, List.nil_append, bin_neq, decide_false, not_true_eq_false, h1]
  refine CallK.of (c_wi _ _ _ _) ?_
  by_cases h2 : 0 ≤ c ∧ c ≤ 99
  case neg =>
    have h0 : ¬ hE Q rs a b c = 0 := fun h => h2 (hE_0.1 h).2
    have e1 : hB Q rs a b c = false := decide_eq_false (fun h => h0 h.1)
    have e2 : hE Q rs a b c = 1 := by unfold hE; rw [if_pos h1, if_neg h2]
    rw [e1, e2]
    simp (maxSteps := 4000000) -implicitDefEqProofs -dsimp (disch := omega) only [↓AW_ops, ↓AW_seq, ↓AW_cond, ↓AW_ret, ↓AOps_nil, ↓AOps_pu, on_some, extK_same, condB_t, ↓then_normal, ↓then_ret, ↓Fin_ret, pval, rd_S, rd_C, put_S, resV, resL, List.replicate_succ, List.replicate_zero, List.set_cons_zero, List.set_cons_succ, List.getElem?_cons_zero, List.getElem?_cons_succ, Option.getD_some, Nat.reduceSub, List.cons_append, List.nil_append, Bool.not_false, decide_false, h2]
    exact gc_same rfl
  have h0 : hE Q rs a b c = 0 := hE_0.2 ⟨h1, h2⟩
  obtain ⟨hn, ha, hb⟩ := pE_0.1 h1
  obtain ⟨P, rfl⟩ := hn.nat
  have hl14 := hn.l
  rw [h0]
  simp (maxSteps := 4000000) -implicitDefEqProofs -dsimp (disch := omega) only [↓AW_skip, ↓AW_ops, ↓AW_seq, ↓AW_cond, ↓AOps_nil, ↓AOps_pu, ↓AOps_call, on_some, extK_same, condB_f, ↓then_normal, pval, rd_S, rd_C, put_S, chkd, bgot, partA, eq_self, List.replicate_succ, List.replicate_zero, List.set_cons_zero, List.set_cons_succ, List.getElem?_cons_zero, List.getElem?_cons_succ, List.drop_zero, List.take_succ_cons, List.take_nil, Option.getD_some, map_c, map_n, List.length_cons, List.length_nil, Nat.reduceAdd, Nat.reduceSub, Nat.reduceLeDiff, Nat.reduceEqDiff, Nat.zero_add, List.cons_append, List.nil_append, if_true, if_false, Bool.not_true, decide_true, and_true, Int.reduceNeg, h2]
  obtain ⟨r1, H1, c1, p1, hL⟩ := c_cheap hu hn c (-1)
  refine CallK.of c1 ?_
  simp (maxSteps := 4000000) -implicitDefEqProofs -dsimp (disch := omega) only [↓AOps_call, extK_false, rd_S, put_S, List.replicate_succ, List.replicate_zero, List.set_cons_zero, List.set_cons_succ, List.getElem?_cons_zero, List.getElem?_cons_succ, Option.getD_some, map_c, map_n, Nat.reduceSub, List.cons_append, List.nil_append]
  refine CallK.of (s66 (hu.mono p1) hL hn (chB_nos _ _) (by have := List.length_filter_le (fun i => decide (¬ i = -1 ∧ wct rs i ≤ c)) (nums rs); rw [plc_len] at this; unfold chB; omega) (s := a) (by omega) (by omega)) ?_
  have hm := mp_new H1 (.cells true (bl P (fun p => decide (Cn ((chB rs c (-1)).map (rdx rs)) a p))))
  have hp3 : A <+: rchH H1 P ((chB rs c (-1)).map (rdx rs)) a := p1.trans (pre_app _ _)
  have hld := ldB hm (k := b) (by omega) (by omega)
  have hiff : Cn ((chB rs c (-1)).map (rdx rs)) a b ↔ cnT rs (nums rs) c a b := by
    rw [chB_cn]
    unfold cnT
    refine ⟨map_sub (fun i hi => ?_), map_sub (fun i hi => ?_)⟩
    · rw [mem_upTo] at hi ⊢; exact ⟨(nums_no (by omega) i).1 hi.1, hi.2⟩
    · rw [mem_upTo] at hi ⊢; exact ⟨(nums_no (by omega) i).2 hi.1, hi.2⟩
  unfold rchH at hp3 ⊢
  by_cases hcn : cnT rs (nums rs) c a b
  · rw [decide_eq_true (hiff.2 hcn)] at hld
    have e1 : hB P rs a b c = false := decide_eq_false (fun h => h.2 hcn)
    rw [e1]
    simp (maxSteps := 4000000) -implicitDefEqProofs -dsimp (disch := omega) only [↓AW_ret, ↓AOps_nil, ↓AOps_pu, ↓AOps_ld, on_some, extK_app, ↓then_normal, ↓Fin_ret, pval, lval, rd_S, rd_C, put_S, resV, resL, List.replicate_succ, List.replicate_zero, List.set_cons_zero, List.set_cons_succ, List.getElem?_cons_zero, List.getElem?_cons_succ, Option.getD_some, Nat.reduceSub, List.cons_append, List.nil_append, Bool.not_true, Int.reduceNeg, idxB, hld]
    exact gc_val hp3 rfl
  · rw [decide_eq_false (fun h => hcn (hiff.1 h))] at hld
    have e1 : hB P rs a b c = true := decide_eq_true ⟨h0, hcn⟩
    rw [e1]
    simp (maxSteps := 4000000) -implicitDefEqProofs -dsimp (disch := omega) only [↓AW_ret, ↓AOps_nil, ↓AOps_pu, ↓AOps_ld, on_some, extK_app, ↓then_normal, ↓Fin_ret, pval, lval, rd_S, rd_C, put_S, resV, resL, List.replicate_succ, List.replicate_zero, List.set_cons_zero, List.set_cons_succ, List.getElem?_cons_zero, List.getElem?_cons_succ, Option.getD_some, Nat.reduceSub, List.cons_append, List.nil_append, Bool.not_false, Int.reduceNeg, idxB, hld]
    exact gc_val hp3 rfl
theorem s11 (hu : L3 A u rs) (hP : W Q) (a b c : Int) : ACalls Try.prog 11 [.agg [I Q, u], .agg [I a, I b], I c] A (B true) A := by
  refine acalls hmix Try.func11 (by kernel_rfl) t11 3 rfl (by decide) ?_
  dsimp only [m11]
  simp (maxSteps := 4000000) -implicitDefEqProofs -dsimp (disch := omega) only [↓AW_ops, ↓AW_seq, ↓AOps_nil, ↓AOps_pu, ↓AOps_call, on_some, ↓then_normal, pval, rd_S, rd_C, put_S, chkd, bgot, AV.cells?, partA, eq_self, List.replicate_succ, List.replicate_zero, List.set_cons_zero, List.set_cons_succ, List.getElem?_cons_zero, List.getElem?_cons_succ, List.drop_zero, List.take_succ_cons, List.take_nil, Option.getD_some, map_c, map_n, List.length_cons, List.length_nil, Nat.reduceAdd, Nat.reduceSub, Nat.reduceLeDiff, Nat.reduceEqDiff, Nat.zero_add, List.cons_append, List.nil_append, if_true, if_false]
  refine CallK.of (s17 hu Q) ?_
  by_cases h1 : (100 : Int) < rs.length
  · simp (maxSteps := 4000000) -implicitDefEqProofs -dsimp (disch := omega) only [↓AW_ops, ↓AW_seq, ↓AW_cond, ↓AOps_nil, ↓AOps_call, extK_same, condB_t, ↓then_normal, rd_S, put_S, List.replicate_succ, List.replicate_zero, List.set_cons_zero, List.set_cons_succ, List.getElem?_cons_zero, List.getElem?_cons_succ, Option.getD_some, map_n, Nat.reduceSub, List.cons_append, List.nil_append, decide_true, h1]
    refine CallK.of (known A) ?_
    simp (maxSteps := 4000000) -implicitDefEqProofs -dsimp (disch := omega) only [↓AW_ret, ↓AOps_nil, ↓AOps_pu, on_some, extK_same, ↓then_normal, ↓then_ret, ↓Fin_ret, pval, rd_S, put_S, resV, resL, List.replicate_succ, List.replicate_zero, List.set_cons_zero, List.set_cons_succ, List.getElem?_cons_zero, List.getElem?_cons_succ, Option.getD_some, Nat.reduceSub, List.cons_append, List.nil_append]
    exact gc_same rfl
  simp (maxSteps := 4000000) -implicitDefEqProofs -dsimp (disch := omega) only [↓AW_skip, ↓AW_ops, ↓AW_seq, ↓AW_cond, ↓AOps_nil, ↓AOps_pu, ↓AOps_call, on_some, extK_same, condB_f, ↓then_normal, pval, rd_S, put_S, chkd, isAdr, bgot, AV.cells?, partA, eq_self, List.replicate_succ, List.replicate_zero, List.set_cons_zero, List.set_cons_succ, List.getElem?_cons_zero, List.getElem?_cons_succ, List.drop_zero, List.drop_succ_cons, List.take_zero, List.take_succ_cons, List.take_nil, Option.getD_some, map_c, map_n, List.length_cons, List.length_nil, Nat.reduceAdd, Nat.reduceSub, Nat.reduceLeDiff, Nat.reduceEqDiff, Nat.zero_add, List.cons_append, List.nil_append, if_true, if_false, Bool.false_eq_true, decide_false, h1]
  obtain ⟨r, H, hc, hp, ht, hf⟩ := s39 hu hP a b c
  refine CallK.of hc ?_
  simp (maxSteps := 4000000) -implicitDefEqProofs -dsimp (disch := omega) only [↓AW_ops, ↓AW_seq, ↓AOps_nil, ↓AOps_pu, ↓AOps_call, on_some, extK_false, ↓then_normal, pval, rd_S, put_S, chkd, isAdr, bgot, AV.cells?, partA, eq_self, List.replicate_succ, List.replicate_zero, List.set_cons_zero, List.set_cons_succ, List.getElem?_cons_zero, List.getElem?_cons_succ, List.drop_zero, List.drop_succ_cons, List.take_zero, List.take_succ_cons, List.take_nil, Option.getD_some, map_c, map_n, List.length_cons, List.length_nil, Nat.reduceAdd, Nat.reduceSub, Nat.reduceLeDiff, Nat.reduceEqDiff, Nat.zero_add, List.cons_append, List.nil_append, if_true, if_false, Bool.false_eq_true]
  refine CallK.of (s40 (hu.mono hp) hP a b c) ?_
  cases hBe : hB Q rs a b c with
  | false =>
    rw [hf hBe]
    simp (maxSteps := 4000000) -implicitDefEqProofs -dsimp (disch := omega) only [↓AW_skip, ↓AW_ops, ↓AW_seq, ↓AW_cond, ↓AOps_nil, ↓AOps_pu, ↓AOps_call, ↓AOps_guard, on_some, extK_same, guardB_tt, guardB_ff, condB_t, condB_f, ↓then_normal, pval, rd_S, rd_C, put_S, beq_self_eq_true, eq_self, List.replicate_succ, List.replicate_zero, List.set_cons_zero, List.set_cons_succ, List.getElem?_cons_zero, List.getElem?_cons_succ, Option.getD_some, map_n, Nat.reduceSub, List.cons_append, List.nil_append, bin_eql, bin_neq, if_true, if_false, Bool.false_eq_true, Bool.not_true, Bool.not_false, decide_true, decide_false, not_true_eq_false, lenA]
    refine CallK.of (known H) ?_
    simp (maxSteps := 4000000) -implicitDefEqProofs -dsimp (disch := omega) only [↓AW_ret, ↓AOps_nil, ↓AOps_pu, on_some, extK_same, ↓then_normal, ↓then_ret, ↓Fin_ret, pval, rd_S, rd_C, put_S, resV, resL, eq_self, List.replicate_succ, List.replicate_zero, List.set_cons_zero, List.set_cons_succ, List.getElem?_cons_zero, List.getElem?_cons_succ, Option.getD_some, Nat.reduceSub, List.cons_append, List.nil_append, if_true]
    exact gc_val hp rfl
  | true =>
    have hL := ht hBe
    obtain ⟨g1, g2⟩ := of_decide_eq_true hBe
    have hn := (pE_0.1 (hE_0.1 g1).1).1
    obtain ⟨P, rfl⟩ := hn.nat
    rw [Int.toNat_natCast] at hL
    have hp7 := hn.p7
    have hx := rS_wall g1 g2
    have hlen : (rS P rs a c).length ≤ 1000000 := by have := List.length_filter_le (fun p => decide (cnT rs (nums rs) c a p)) (plc P); rw [plc_len] at this; unfold rS; omega
    simp (maxSteps := 4000000) -implicitDefEqProofs -dsimp (disch := omega) only [↓AW_skip, ↓AW_ops, ↓AW_seq, ↓AW_cond, ↓AOps_nil, ↓AOps_pu, ↓AOps_call, ↓AOps_guard, on_some, extK_same, guardB_ff, condB_f, ↓then_normal, pval, rd_S, rd_C, put_S, chkd, isAdr, bgot, AV.cells?, partA, beq_self_eq_true, eq_self, List.replicate_succ, List.replicate_zero, List.set_cons_zero, List.set_cons_succ, List.getElem?_cons_zero, List.getElem?_cons_succ, List.drop_zero, List.drop_succ_cons, List.take_zero, List.take_succ_cons, List.take_nil, Option.getD_some, map_c, map_n, List.length_cons, List.length_nil, Nat.reduceAdd, Nat.reduceSub, Nat.reduceLeDiff, Nat.reduceEqDiff, Nat.zero_add, List.cons_append, List.nil_append, bin_neq, if_true, if_false, Bool.false_eq_true, Bool.not_true, decide_false, not_true_eq_false]
    refine CallK.of (s38 (hu.mono hp) hP hL hlen a b c) ?_
    rw [hx]
    simp (maxSteps := 4000000) -implicitDefEqProofs -dsimp (disch := omega) only [↓AOps_pu, ↓AOps_call, ↓AOps_guard, on_some, extK_same, guardB_tt, pval, rd_S, rd_C, put_S, eq_self, List.replicate_succ, List.replicate_zero, List.set_cons_zero, List.set_cons_succ, List.getElem?_cons_zero, List.getElem?_cons_succ, Option.getD_some, map_n, Nat.reduceSub, List.cons_append, List.nil_append, bin_eql, decide_true]
    refine CallK.of (known H) ?_
    simp (maxSteps := 4000000) -implicitDefEqProofs -dsimp (disch := omega) only [↓AW_ret, ↓AOps_nil, ↓AOps_pu, on_some, extK_same, ↓then_normal, ↓Fin_ret, pval, rd_S, rd_C, put_S, resV, resL, eq_self, List.replicate_succ, List.replicate_zero, List.set_cons_zero, List.set_cons_succ, List.getElem?_cons_zero, List.getElem?_cons_succ, Option.getD_some, Nat.reduceSub, List.cons_append, List.nil_append, if_true]
    exact gc_val hp rfl
end
end Go.Proofs.Ytkgfcdpckfhknaa

