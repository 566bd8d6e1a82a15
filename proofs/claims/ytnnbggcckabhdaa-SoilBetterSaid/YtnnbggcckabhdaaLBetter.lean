/- Whatever it is given, 'SoilBetter' answers true, and leaves its arguments as they were. No conditions. -/
import Derived.Test.YtnnbggcckabhdaaW23
import Derived.Test.YtnnbggcckabhdaaLBase
namespace Go.Proofs.Ytnnbggcckabhdaa
open Go Go.Eng Go.ChangeShapes Go.WideShapes Go.ChangeAt Go.RowKit

set_option maxRecDepth 100000 in
theorem SoilBetter_lifted (os : Os) (started : os.Started) (H : Type) (enc : TypeId × Value → H) :
    ReturnsInHanded {} Try.checked os 10 .any (Rows.soilBetterSpec.pre6 enc Try.prog Try.f10 Rows.soilBetterRow.domain false) (Rows.soilBetterSpec.post enc Try.prog Try.f10 false true false false) := by
  refine returnsInHanded_of_change_shaped (C := Try.checked) Try.ownR started (by kernel_rfl) Try.func10
    (ChangeSpec.witness6 (enc := enc) (C := Try.checked) false ⟨#[], #[.slice none 0 0, .slice none 0 0, .agg #[.int .i64 0, .int .i64 0, .int .i64 0, .int .i64 0]], []⟩ 8 (by kernel_rfl) (by kernel_rfl) (by kernel_rfl) (by kernel_rfl)) ?_
  intro W base args ds gs before hval hW _ _ hsh _
  refine law_calls (P := Try.prog) (tb := 4) (ss := [(false, [.sl 2 [.int .i64, .int .i64]]), (false, [.sl 2 [.int .i64, .int .i64]]), (true, [.int .i64, .int .i64, .int .i64, .int .i64])]) Try.laidR (by kernel_rfl) (by kernel_rfl) rfl (fun ds h => ?_) (by kernel_rfl) Try.underlying4 (heap0 hsh) hval hW ?_
  · have h' : ds.length = 3 := h.trans (by kernel_rfl)
    match ds, h' with
    | [d0, d1, d2], _ => rfl
  · intro A vs ha
    match vs, ha with
    | [v, u, t], ha =>
      obtain ⟨f, hf, _, _⟩ := ha.1.pairs
      obtain ⟨g, hg, _, _⟩ := ha.2.1.pairs
      obtain ⟨a, b, c, d, rfl, ba, bb, bc, bd⟩ := ha.2.2.1.quad
      exact ⟨A, s10 hf hg a b c d ba bc⟩

theorem SoilBetter_holds : Rows.SoilBetterSaid :=
  OpenClaim.holds_of_wide 10 Try.f10 rfl rfl rfl rfl rfl rfl rfl ⟨rfl, rfl, rfl, rfl, rfl⟩ rfl rfl rfl rfl rfl (by kernel_rfl) Try.func10 (by kernel_rfl)
    (of_decide_eq_true (by kernel_rfl)) (by unfold Func.isWrapper; first | (rw [if_pos (by decide +kernel)]; kernel_rfl) | (rw [if_neg (by decide +kernel)]; exact ⟨rfl, rfl⟩))
    (fun os started H enc _ => SoilBetter_lifted os started H enc)

end Go.Proofs.Ytnnbggcckabhdaa
