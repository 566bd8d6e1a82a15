/- Whatever it is given, 'SoilPlains' answers true, and leaves its arguments as they were. No conditions. -/
import Derived.Test.YtnnbggcckabhdaaW24
import Derived.Test.YtnnbggcckabhdaaLBase
namespace Go.Proofs.Ytnnbggcckabhdaa
open Go Go.Eng Go.ChangeShapes Go.WideShapes Go.ChangeAt Go.RowKit

set_option maxRecDepth 100000 in
theorem SoilPlains_lifted (os : Os) (started : os.Started) (H : Type) (enc : TypeId × Value → H) :
    ReturnsInHanded {} Try.checked os 11 .any (Rows.soilPlainsSpec.pre6 enc Try.prog Try.f11 Rows.soilPlainsRow.domain false) (Rows.soilPlainsSpec.post enc Try.prog Try.f11 false true false false) := by
  refine returnsInHanded_of_change_shaped (C := Try.checked) Try.ownR started (by kernel_rfl) Try.func11
    (ChangeSpec.witness6 (enc := enc) (C := Try.checked) false ⟨#[], #[.slice none 0 0, .slice none 0 0], []⟩ 8 (by kernel_rfl) (by kernel_rfl) (by kernel_rfl) (by kernel_rfl)) ?_
  intro W base args ds gs before hval hW _ _ hsh _
  refine law_calls (P := Try.prog) (tb := 4) (ss := [(false, [.sl 2 [.int .i64, .int .i64]]), (false, [.sl 2 [.int .i64, .int .i64]])]) Try.laidR (by kernel_rfl) (by kernel_rfl) rfl (fun ds h => ?_) (by kernel_rfl) Try.underlying4 (heap0 hsh) hval hW ?_
  · have h' : ds.length = 2 := h.trans (by kernel_rfl)
    match ds, h' with
    | [d0, d1], _ => rfl
  · intro A vs ha
    match vs, ha with
    | [v, u], ha =>
      obtain ⟨f, hf, _, _⟩ := ha.1.pairs
      obtain ⟨g, hg, _, _⟩ := ha.2.1.pairs
      exact ⟨A, s11 hf hg⟩

theorem SoilPlains_holds : Rows.SoilPlainsSaid :=
  OpenClaim.holds_of_wide 11 Try.f11 rfl rfl rfl rfl rfl rfl rfl ⟨rfl, rfl, rfl, rfl, rfl⟩ rfl rfl rfl rfl rfl (by kernel_rfl) Try.func11 (by kernel_rfl)
    (of_decide_eq_true (by kernel_rfl)) (by unfold Func.isWrapper; first | (rw [if_pos (by decide +kernel)]; kernel_rfl) | (rw [if_neg (by decide +kernel)]; exact ⟨rfl, rfl⟩))
    (fun os started H enc _ => SoilPlains_lifted os started H enc)

end Go.Proofs.Ytnnbggcckabhdaa
