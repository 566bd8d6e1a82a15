/- Whatever it is given, 'TopRoads' answers true, and leaves its arguments as they were. No conditions. -/
import Derived.HandedShaped
import Derived.Test.YtkgfcdpckfhknaaCnC
namespace Go.Proofs.Ytkgfcdpckfhknaa
open Go Go.Eng Go.ChangeShapes Go.WideShapes Go.ChangeAt Go.RowKit
theorem Try.ownR : ownKnob Try.prog.godebug = none := by kernel_rfl
theorem Try.laidR : laidOutB Try.prog = true := by kernel_rfl
theorem heap0 {W : World} (h : W.ShapedOpen Try.prog) : ∃ (b : Nat) (cs : Array Value) (T : TypeId) (fz : Nat × Nat), W.heap[b]? = some (Obj.cells cs T fz) := by
  have g0 : Try.prog.globals.size = 0 := by kernel_rfl
  have g1 : (match (begin Try.prog (fun _ _ => 0) default).world.heap[0]? with | some (.cells _ _ _) => true | _ => false) = true := by kernel_rfl
  have g2 : 0 < (begin Try.prog (fun _ _ => 0) default).world.heap.size := by
    cases hh : (begin Try.prog (fun _ _ => 0) default).world.heap[0]? with
    | none => rw [hh] at g1; cases g1
    | some o => exact (Array.getElem?_eq_some_iff.1 hh).1
  obtain ⟨o, o0, h1, h2, h3⟩ := h.2 0 (by omega) g2
  rw [g0] at h3
  rw [if_neg (by decide)] at h3
  subst h3
  rw [h2] at g1
  split at g1
  · rename_i cs T fz e
    cases e
    exact ⟨0, cs, T, fz, h1⟩
  · cases g1
theorem AOK.roads {H : AHeap} {v : AV} (h : AOK H (.sl 3 [.int .i64, .int .i64, .int .i64]) v) : ∃ xs : List Rd, L3 H v xs := by
  cases h with
  | nil => exact ⟨[], ⟨e3_len, rfl⟩⟩
  | sl _ _ n len l h1 h2 h3 _ h5 =>
    have key : ∀ (k : Nat) (l : List AV), l.length = k * 3 → (∀ x ∈ l, ∃ n, x = I n ∧ -9223372036854775808 ≤ n ∧ n ≤ 9223372036854775807) → ∃ xs : List Rd, l = xs.flatMap e3 ∧ xs.length = k := by
      intro k
      induction k with
      | zero => intro l hl _; exact ⟨[], by simpa using hl, rfl⟩
      | succ k ih =>
        intro l hl h
        match l, hl with
        | a :: b :: c :: l, hl =>
          obtain ⟨xs, g1, g2⟩ := ih l (by simp at hl; omega) (fun x hx => h x (by simp [hx]))
          obtain ⟨a, rfl, ha⟩ := h a (by simp)
          obtain ⟨b, rfl, hb⟩ := h b (by simp)
          obtain ⟨c, rfl, hc⟩ := h c (by simp)
          exact ⟨(a, b, c) :: xs, by simp [g1, e3], by simp [g2]⟩
        | [], hl => simp at hl
        | [_], hl => simp at hl; omega
        | [_, _], hl => simp at hl; omega
    obtain ⟨xs, g1, g2⟩ := key len l h3 (fun x hx => by
      obtain ⟨i, hi, hie⟩ := List.mem_iff_getElem.1 hx
      have hxi : l[i / 3 * 3 + i % 3]? = some x := by rw [Nat.div_add_mod', List.getElem?_eq_getElem hi, hie]
      have hk : ([CK.int .i64, CK.int .i64, CK.int .i64] : List CK)[i % 3]? = some (.int .i64) := by
        have := Nat.mod_lt i (show 0 < 3 by omega)
        rcases (show i % 3 = 0 ∨ i % 3 = 1 ∨ i % 3 = 2 by omega) with h | h | h <;> rw [h] <;> rfl
      have := h5 (i / 3) (i % 3) x (.int .i64) (by omega) (by omega) hxi hk
      obtain ⟨n, rfl, hn⟩ := this.int_inv
      exact ⟨n, rfl, wf64 hn⟩)
    refine ⟨xs, ⟨e3_len, ?_⟩⟩
    simp only [slCells, cellsAt, h2, if_true, Nat.zero_add]
    rw [if_pos (by omega)]
    simp [g2, ← g1, ← h3, List.take_length]
/-- A net: how many places, and the roads. -/
theorem ArgA.net {H : AHeap} {v : AV} (h : ArgA H (true, [.int .i64, .sl 3 [.int .i64, .int .i64, .int .i64]]) v) : ∃ (Q : Int) (u : AV) (rs : List Rd), v = .agg [I Q, u] ∧ W Q ∧ L3 H u rs := by
  obtain ⟨l, rfl, hl, h⟩ := h
  match l, hl with
  | [x, y], _ =>
    obtain ⟨q, rfl, hq⟩ := (h 0 _ x rfl rfl).int_inv
    obtain ⟨rs, hr⟩ := AOK.roads (h 1 _ y rfl rfl)
    exact ⟨q, y, rs, rfl, wf64 hq, hr⟩
end Go.Proofs.Ytkgfcdpckfhknaa

namespace Go.Proofs.Ytkgfcdpckfhknaa
open Go Go.Eng Go.ChangeShapes Go.WideShapes Go.ChangeAt Go.RowKit
set_option maxRecDepth 100000 in
theorem TopRoads_lifted (os : Os) (started : os.Started) (H : Type) (enc : TypeId × Value → H) :
    ReturnsInHanded {} Try.checked os 16 .any (Rows.topRoadsSpec.pre6 enc Try.prog Try.f16 Rows.topRoadsRow.domain false) (Rows.topRoadsSpec.post enc Try.prog Try.f16 false true false false) := by
  refine returnsInHanded_of_change_shaped (C := Try.checked) Try.ownR started (by kernel_rfl) Try.func16
    (ChangeSpec.witness6 (enc := enc) (C := Try.checked) false ⟨#[], #[.agg #[.int .i64 0, .slice none 0 0], .agg #[.int .i64 0, .int .i64 0]], []⟩ 8 (by kernel_rfl) (by kernel_rfl) (by kernel_rfl) (by kernel_rfl)) ?_
  intro W base args ds gs before hval hW _ _ hsh _
  refine law_calls (P := Try.prog) (tb := 4) (ss := [(true, [.int .i64, .sl 3 [.int .i64, .int .i64, .int .i64]]), (true, [.int .i64, .int .i64])]) Try.laidR (by kernel_rfl) (by kernel_rfl) rfl (fun ds h => ?_) (by kernel_rfl) Try.underlying4 (heap0 hsh) hval hW ?_
  · have h' : ds.length = 2 := h.trans (by kernel_rfl)
    match ds, h' with
    | [d0, d1], _ => rfl
  · intro A vs ha
    match vs, ha with
    | [v, u], ha =>
      obtain ⟨q, x, rs, rfl, hq, hx⟩ := ArgA.net ha.1
      obtain ⟨n, m, rfl, bn, bm⟩ := ha.2.1.pair
      exact ⟨A, s16 hx hq n m⟩
theorem TopRoads_holds : Rows.TopRoadsSaid :=
  OpenClaim.holds_of_wide 16 Try.f16 rfl rfl rfl rfl rfl rfl rfl ⟨rfl, rfl, rfl, rfl, rfl⟩ rfl rfl rfl rfl rfl (by kernel_rfl) Try.func16 (by kernel_rfl)
    (of_decide_eq_true (by kernel_rfl)) (by unfold Func.isWrapper; first | (rw [if_pos (by decide +kernel)]; kernel_rfl) | (rw [if_neg (by decide +kernel)]; exact ⟨rfl, rfl⟩))
    (fun os started H enc _ => TopRoads_lifted os started H enc)
end Go.Proofs.Ytkgfcdpckfhknaa

