/- Whatever it is given, 'ClaimLeaves' answers true, and leaves its arguments as they were. No conditions. -/
import Derived.HandedShaped
import Derived.Test.YtdcdjhhjlpegjaaClC
namespace Go.Proofs.Ytdcdjhhjlpegjaa
open Go Go.Eng Go.ChangeShapes Go.WideShapes Go.ChangeAt Go.RowKit
theorem Try.ownR : ownKnob Try.prog.godebug = none := by kernel_rfl
theorem Try.laidR : laidOutB Try.prog = true := by kernel_rfl
theorem heap0 {W : World} (h : W.ShapedOpen Try.prog) : ∃ (b : Nat) (cs : Array Value) (T : TypeId) (fz : Nat × Nat), W.heap[b]? = some (Obj.cells cs T fz) := by
  have g0 : Try.prog.globals.size = 0 := by kernel_rfl
  have g1 : (match (begin Try.prog (fun _ _ => 0) default).world.heap[0]? with | some (.cells _ _ _) => true | _ => false) = true := by kernel_rfl
  have g2 : 0 < (begin Try.prog (fun _ _ => 0) default).world.heap.size := by
    cases hh : (begin Try.prog (fun _ _ => 0) default).world.heap[0]? with
    | none => rw [hh] at g1; cases g1
    | some o => exact (Array.getElem?_eq_some_iff.1 hh).1
  obtain ⟨o, o0, h1, h2, h3⟩ := h.2 0 (by omega) g2
  rw [g0] at h3
  rw [if_neg (by decide)] at h3
  subst h3
  rw [h2] at g1
  split at g1
  · rename_i cs T fz e
    cases e
    exact ⟨0, cs, T, fz, h1⟩
  · cases g1
/-- A case: claims and an estate. -/
theorem ArgA.case {H : AHeap} {v : AV} (h : ArgA H (true, [.sl 1 [.int .i64], .int .i64]) v) : ∃ (x : AV) (e : Int) (cs : List Int), v = .agg [x, I e] ∧ L1 H x cs ∧ W e := by
  obtain ⟨l, rfl, hl, h⟩ := h
  match l, hl with
  | [x, y], _ =>
    obtain ⟨L, hL, _, _⟩ := (h 0 _ x rfl rfl).ints
    obtain ⟨e, rfl, he⟩ := (h 1 _ y rfl rfl).int_inv
    exact ⟨x, e, L, rfl, hL, wf64 he⟩
end Go.Proofs.Ytdcdjhhjlpegjaa

namespace Go.Proofs.Ytdcdjhhjlpegjaa
open Go Go.Eng Go.ChangeShapes Go.WideShapes Go.ChangeAt Go.RowKit
set_option maxRecDepth 100000 in
theorem ClaimLeaves_lifted (os : Os) (started : os.Started) (H : Type) (enc : TypeId × Value → H) :
    ReturnsInHanded {} Try.checked os 14 .any (Rows.claimLeavesSpec.pre6 enc Try.prog Try.f14 Rows.claimLeavesRow.domain false) (Rows.claimLeavesSpec.post enc Try.prog Try.f14 false true false false) := by
  refine returnsInHanded_of_change_shaped (C := Try.checked) Try.ownR started (by kernel_rfl) Try.func14
    (ChangeSpec.witness6 (enc := enc) (C := Try.checked) false ⟨#[], #[.agg #[.slice none 0 0, .int .i64 0], .slice none 0 0, .int .i64 0], []⟩ 8 (by kernel_rfl) (by kernel_rfl) (by kernel_rfl) (by kernel_rfl)) ?_
  intro W base args ds gs before hval hW _ _ hsh _
  refine law_calls (P := Try.prog) (tb := 4) (ss := [(true, [.sl 1 [.int .i64], .int .i64]), (false, [.sl 2 [.int .i64, .int .i64]]), (false, [.int .i64])]) Try.laidR (by kernel_rfl) (by kernel_rfl) rfl (fun ds h => ?_) (by kernel_rfl) Try.underlying4 (heap0 hsh) hval hW ?_
  · have h' : ds.length = 3 := h.trans (by kernel_rfl)
    match ds, h' with
    | [d0, d1, d2], _ => rfl
  · intro A vs ha
    match vs, ha with
    | [v, u, t], ha =>
      obtain ⟨x, e, cs, rfl, hx, he⟩ := ArgA.case ha.1
      obtain ⟨rs, hr, _, _⟩ := ha.2.1.pairs
      obtain ⟨i, rfl, hi⟩ := ha.2.2.1.num
      exact ⟨A, s14 hx hr i⟩
theorem ClaimLeaves_holds : Rows.ClaimLeavesSaid :=
  OpenClaim.holds_of_wide 14 Try.f14 rfl rfl rfl rfl rfl rfl rfl ⟨rfl, rfl, rfl, rfl, rfl⟩ rfl rfl rfl rfl rfl (by kernel_rfl) Try.func14 (by kernel_rfl)
    (of_decide_eq_true (by kernel_rfl)) (by unfold Func.isWrapper; first | (rw [if_pos (by decide +kernel)]; kernel_rfl) | (rw [if_neg (by decide +kernel)]; exact ⟨rfl, rfl⟩))
    (fun os started H enc _ => ClaimLeaves_lifted os started H enc)
end Go.Proofs.Ytdcdjhhjlpegjaa

