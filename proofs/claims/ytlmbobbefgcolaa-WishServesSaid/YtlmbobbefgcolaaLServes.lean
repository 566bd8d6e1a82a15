/- Whatever it is given, 'WishServes' answers true, and leaves its arguments as they were. No conditions. -/
import Derived.Test.YtlmbobbefgcolaaW19
import Derived.Test.YtlmbobbefgcolaaLBase
namespace Go.Proofs.Ytlmbobbefgcolaa
open Go Go.Eng Go.ChangeShapes Go.WideShapes Go.ChangeAt Go.RowKit

set_option maxRecDepth 100000 in
theorem WishServes_lifted (os : Os) (started : os.Started) (H : Type) (enc : TypeId × Value → H) :
    ReturnsInHanded {} Try.checked os 6 .any (Rows.wishServesSpec.pre6 enc Try.prog Try.f6 Rows.wishServesRow.domain false) (Rows.wishServesSpec.post enc Try.prog Try.f6 false true false false) := by
  refine returnsInHanded_of_change_shaped (C := Try.checked) Try.ownR started (by kernel_rfl) Try.func6
    (ChangeSpec.witness6 (enc := enc) (C := Try.checked) false ⟨#[], #[.agg #[.int .i64 0, .slice none 0 0], .slice none 0 0], []⟩ 8 (by kernel_rfl) (by kernel_rfl) (by kernel_rfl) (by kernel_rfl)) ?_
  intro W base args ds gs before hval hW _ _ hsh _
  refine law_calls (P := Try.prog) (tb := 4) (ss := [(true, [.int .i64, .sl 1 [.sl 1 [.int .i64]]]), (false, [.sl 1 [.int .i64]])]) Try.laidR (by kernel_rfl) (by kernel_rfl) rfl (fun ds h => ?_) (by kernel_rfl) Try.underlying4 (heap0 hsh) hval hW ?_
  · have h' : ds.length = 2 := h.trans (by kernel_rfl)
    match ds, h' with
    | [d0, d1], _ => rfl
  · intro A vs ha
    match vs, ha with
    | [v, u], ha =>
      obtain ⟨P, y, ws, rfl, bP, hw, hl, hb⟩ := ArgA.wishes ha.1
      obtain ⟨g, hg, gl, _⟩ := ha.2.1.ints
      exact ⟨A, s6 hw hl hg⟩

theorem WishServes_holds : Rows.WishServesSaid :=
  OpenClaim.holds_of_wide 6 Try.f6 rfl rfl rfl rfl rfl rfl rfl ⟨rfl, rfl, rfl, rfl, rfl⟩ rfl rfl rfl rfl rfl (by kernel_rfl) Try.func6 (by kernel_rfl)
    (of_decide_eq_true (by kernel_rfl)) (by unfold Func.isWrapper; first | (rw [if_pos (by decide +kernel)]; kernel_rfl) | (rw [if_neg (by decide +kernel)]; exact ⟨rfl, rfl⟩))
    (fun os started H enc _ => WishServes_lifted os started H enc)

end Go.Proofs.Ytlmbobbefgcolaa
