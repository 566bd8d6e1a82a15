/- Whatever it is given, 'TopSwaps' answers true, and leaves its arguments as they were. No conditions. -/
import Derived.HandedShaped
import Derived.Test.YtgidfejkfdkflaaAB
namespace Go.Proofs.Ytgidfejkfdkflaa
open Go Go.Eng Go.ChangeShapes Go.WideShapes Go.ChangeAt Go.RowKit
theorem Try.ownR : ownKnob Try.prog.godebug = none := by kernel_rfl
theorem Try.laidR : laidOutB Try.prog = true := by kernel_rfl
theorem heap0 {W : World} (h : W.ShapedOpen Try.prog) : ∃ (b : Nat) (cs : Array Value) (T : TypeId) (fz : Nat × Nat), W.heap[b]? = some (Obj.cells cs T fz) := by
  have g0 : Try.prog.globals.size = 0 := by kernel_rfl
  have g1 : (match (begin Try.prog (fun _ _ => 0) default).world.heap[0]? with | some (.cells _ _ _) => true | _ => false) = true := by kernel_rfl
  have g2 : 0 < (begin Try.prog (fun _ _ => 0) default).world.heap.size := by
    cases hh : (begin Try.prog (fun _ _ => 0) default).world.heap[0]? with
    | none => rw [hh] at g1; cases g1
    | some o => exact (Array.getElem?_eq_some_iff.1 hh).1
  obtain ⟨o, o0, h1, h2, h3⟩ := h.2 0 (by omega) g2
  rw [g0] at h3
  rw [if_neg (by decide)] at h3
  subst h3
  rw [h2] at g1
  split at g1
  · rename_i cs T fz e
    cases e
    exact ⟨0, cs, T, fz, h1⟩
  · cases g1
theorem maxLen_le {n : Nat} (h : n ≤ Go.maxLen) : n ≤ 9223372036854775807 := by
  have : Go.maxLen = 9223372036854775807 := by decide
  omega
theorem AOK.lists {H : AHeap} {v : AV} (h : AOK H (.sl 1 [.sl 1 [.int .i64]]) v) : ∃ ws : List (AV × List Int), LL H v ws ∧ ws.length ≤ 9223372036854775807 ∧ ∀ x ∈ ws, x.2.length ≤ 9223372036854775807 ∧ ∀ p ∈ x.2, W p := by
  cases h with
  | nil => exact ⟨[], ⟨⟨fun _ => rfl, rfl⟩, by simp⟩, by simp, by simp⟩
  | sl _ _ n len l h1 h2 h3 _ h5 =>
    have key : ∀ (l : List AV), (∀ x ∈ l, AOK H (.sl 1 [.int .i64]) x) → ∃ ws : List (AV × List Int), l = ws.flatMap e0 ∧ ws.length = l.length ∧ ∀ x ∈ ws, L1 H x.1 x.2 ∧ x.2.length ≤ 9223372036854775807 ∧ ∀ p ∈ x.2, W p := by
      intro l
      induction l with
      | nil => intro _; exact ⟨[], rfl, rfl, by simp⟩
      | cons a l ih =>
        intro h
        obtain ⟨ws, g1, g2, g3⟩ := ih (fun x hx => h x (by simp [hx]))
        obtain ⟨xs, k1, k2, k3⟩ := (h a (by simp)).ints
        refine ⟨(a, xs) :: ws, by simp [g1, e0], by simp [g2], fun x hx => ?_⟩
        rcases List.mem_cons.1 hx with rfl | hx
        · exact ⟨k1, maxLen_le k2, k3⟩
        · exact g3 x hx
    obtain ⟨ws, g1, g2, g3⟩ := key l (fun x hx => by
      obtain ⟨i, hi, hie⟩ := List.mem_iff_getElem.1 hx
      exact h5 i 0 x (.sl 1 [.int .i64]) (by omega) (by omega) (by simp [← hie, List.getElem?_eq_getElem hi]) rfl)
    have hlen : ws.length = len := by omega
    refine ⟨ws, ⟨⟨fun _ => rfl, ?_⟩, fun x hx => (g3 x hx).1⟩, by have := maxLen_le h1; omega, fun x hx => (g3 x hx).2⟩
    simp only [slCells, cellsAt, h2, if_true, Nat.zero_add]
    rw [if_pos (by omega)]
    simp only [← g1, ← h3, List.drop_zero, List.take_length, Option.map_some, hlen]
theorem ArgA.lists {H : AHeap} {v : AV} (h : ArgA H (false, [.sl 1 [.sl 1 [.int .i64]]]) v) : ∃ ws : List (AV × List Int), LL H v ws ∧ ws.length ≤ 9223372036854775807 ∧ ∀ x ∈ ws, x.2.length ≤ 9223372036854775807 ∧ ∀ p ∈ x.2, W p := by
  obtain ⟨k, hk, h⟩ := h
  cases hk
  exact AOK.lists h
theorem ArgA.lie {H : AHeap} {v : AV} (h : ArgA H (true, [.int .i64, .sl 1 [.int .i64]]) v) : ∃ (o : Int) (z : AV) (li : List Int), v = .agg [I o, z] ∧ L1 H z li := by
  obtain ⟨l, rfl, hl, h⟩ := h
  match l, hl with
  | [x, y], _ =>
    obtain ⟨o, rfl, _⟩ := (h 0 _ x rfl rfl).int_inv
    obtain ⟨li, h1, _, _⟩ := (h 1 _ y rfl rfl).ints
    exact ⟨o, y, li, rfl, h1⟩
end Go.Proofs.Ytgidfejkfdkflaa

namespace Go.Proofs.Ytgidfejkfdkflaa
open Go Go.Eng Go.ChangeShapes Go.WideShapes Go.ChangeAt Go.RowKit
set_option maxRecDepth 100000 in
theorem TopSwaps_lifted (os : Os) (started : os.Started) (H : Type) (enc : TypeId × Value → H) :
    ReturnsInHanded {} Try.checked os 3 .any (Rows.topSwapsSpec.pre6 enc Try.prog Try.f3 Rows.topSwapsRow.domain false) (Rows.topSwapsSpec.post enc Try.prog Try.f3 false true false false) := by
  refine returnsInHanded_of_change_shaped (C := Try.checked) Try.ownR started (by kernel_rfl) Try.func3
    (ChangeSpec.witness6 (enc := enc) (C := Try.checked) false ⟨#[], #[.slice none 0 0, .slice none 0 0, .agg #[.int .i64 0, .slice none 0 0]], []⟩ 8 (by kernel_rfl) (by kernel_rfl) (by kernel_rfl) (by kernel_rfl)) ?_
  intro W base args ds gs before hval hW _ _ hsh _
  refine law_calls (P := Try.prog) (tb := 4) (ss := [(false, [.sl 1 [.sl 1 [.int .i64]]]), (false, [.sl 1 [.int .i64]]), (true, [.int .i64, .sl 1 [.int .i64]])]) Try.laidR (by kernel_rfl) (by kernel_rfl) rfl (fun ds h => ?_) (by kernel_rfl) Try.underlying4 (heap0 hsh) hval hW ?_
  · have h' : ds.length = 3 := h.trans (by kernel_rfl)
    match ds, h' with
    | [d0, d1, d2], _ => rfl
  · intro A vs ha
    match vs, ha with
    | [v, u, t], ha =>
      obtain ⟨ws, hV, hl, _⟩ := ArgA.lists ha.1
      obtain ⟨d, hd, _, _⟩ := ha.2.1.ints
      obtain ⟨o, z, li, rfl, hz⟩ := ArgA.lie ha.2.2.1
      exact ⟨A, s3 hV hl hd hz⟩
theorem TopSwaps_holds : Rows.TopSwapsSaid :=
  OpenClaim.holds_of_wide 3 Try.f3 rfl rfl rfl rfl rfl rfl rfl ⟨rfl, rfl, rfl, rfl, rfl⟩ rfl rfl rfl rfl rfl (by kernel_rfl) Try.func3 (by kernel_rfl)
    (of_decide_eq_true (by kernel_rfl)) (by unfold Func.isWrapper; first | (rw [if_pos (by decide +kernel)]; kernel_rfl) | (rw [if_neg (by decide +kernel)]; exact ⟨rfl, rfl⟩))
    (fun os started H enc _ => TopSwaps_lifted os started H enc)
end Go.Proofs.Ytgidfejkfdkflaa

