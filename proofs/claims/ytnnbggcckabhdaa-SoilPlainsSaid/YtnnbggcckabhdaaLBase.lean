/- What all laws of this seat ask of the program. No conditions. -/
import Derived.Test.YtnnbggcckabhdaaK1
import Derived.Test.YtnnbggcckabhdaaEng21
import Derived.HandedShaped
namespace Go.Proofs.Ytnnbggcckabhdaa
open Go Go.Eng Go.ChangeShapes Go.WideShapes Go.ChangeAt Go.RowKit

theorem Try.ownR : ownKnob Try.prog.godebug = none := by kernel_rfl
theorem Try.laidR : laidOutB Try.prog = true := by kernel_rfl

theorem heap0 {W : World} (h : W.ShapedOpen Try.prog) : ∃ (b : Nat) (cs : Array Value) (T : TypeId) (fz : Nat × Nat), W.heap[b]? = some (Obj.cells cs T fz) := by
  have g0 : Try.prog.globals.size = 0 := by kernel_rfl
  have g1 : (match (begin Try.prog (fun _ _ => 0) default).world.heap[0]? with | some (.cells _ _ _) => true | _ => false) = true := by kernel_rfl
  have g2 : 0 < (begin Try.prog (fun _ _ => 0) default).world.heap.size := by
    cases hh : (begin Try.prog (fun _ _ => 0) default).world.heap[0]? with
    | none => rw [hh] at g1; cases g1
    | some o => exact (Array.getElem?_eq_some_iff.1 hh).1
  obtain ⟨o, o0, h1, h2, h3⟩ := h.2 0 (by omega) g2
  rw [g0] at h3
  rw [if_neg (by decide)] at h3
  subst h3
  rw [h2] at g1
  split at g1
  · rename_i cs T fz e
    cases e
    exact ⟨0, cs, T, fz, h1⟩
  · cases g1

end Go.Proofs.Ytnnbggcckabhdaa
