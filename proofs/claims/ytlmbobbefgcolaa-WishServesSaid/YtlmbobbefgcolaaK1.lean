/- What 'known' answers, by running it. No conditions. -/
import Derived.Test.YtlmbobbefgcolaaM1
namespace Go.Proofs.Ytlmbobbefgcolaa
open Go Go.Eng
theorem hmix : Try.prog.follows .mixedOrders = true := by kernel_rfl
def tab : List (Nat × MFun) := [(18, m18), (19, m19), (21, m21), (23, m23), (24, m24), (39, m39), (54, m54), (55, m55), (56, m56), (59, m59), (61, m61), (62, m62), (63, m63), (69, m69), (71, m71), (73, m73), (83, m83), (87, m87), (89, m89), (90, m90), (91, m91), (92, m92), (93, m93), (94, m94), (95, m95), (101, m101), (102, m102), (107, m107), (108, m108)]
theorem tabOK : TabOK Try.prog tab :=
  .cons Try.func18 (by kernel_rfl) t18 <| .cons Try.func19 (by kernel_rfl) t19 <| .cons Try.func21 (by kernel_rfl) t21 <| .cons Try.func23 (by kernel_rfl) t23 <| .cons Try.func24 (by kernel_rfl) t24 <| .cons Try.func39 (by kernel_rfl) t39 <| .cons Try.func54 (by kernel_rfl) t54 <| .cons Try.func55 (by kernel_rfl) t55 <| .cons Try.func56 (by kernel_rfl) t56 <| .cons Try.func59 (by kernel_rfl) t59 <| .cons Try.func61 (by kernel_rfl) t61 <| .cons Try.func62 (by kernel_rfl) t62 <| .cons Try.func63 (by kernel_rfl) t63 <| .cons Try.func69 (by kernel_rfl) t69 <| .cons Try.func71 (by kernel_rfl) t71 <| .cons Try.func73 (by kernel_rfl) t73 <| .cons Try.func83 (by kernel_rfl) t83 <| .cons Try.func87 (by kernel_rfl) t87 <| .cons Try.func89 (by kernel_rfl) t89 <| .cons Try.func90 (by kernel_rfl) t90 <| .cons Try.func91 (by kernel_rfl) t91 <| .cons Try.func92 (by kernel_rfl) t92 <| .cons Try.func93 (by kernel_rfl) t93 <| .cons Try.func94 (by kernel_rfl) t94 <| .cons Try.func95 (by kernel_rfl) t95 <| .cons Try.func101 (by kernel_rfl) t101 <| .cons Try.func102 (by kernel_rfl) t102 <| .cons Try.func107 (by kernel_rfl) t107 <| .cons Try.func108 (by kernel_rfl) t108 <| .nil
def isTrue : Option (AV × AHeap) → Bool
  | some (.bool true, _) => true
  | _ => false
set_option maxRecDepth 100000 in
theorem known_run : isTrue (runF tab 300 14 18 [] []) = true := by kernel_rfl
theorem known (A : AHeap) : ACalls Try.prog 18 [] A (B true) A := by
  cases h : runF tab 300 14 18 [] [] with
  | none => have := known_run; rw [h] at this; cases this
  | some p =>
    obtain ⟨v, A'⟩ := p
    have h1 := known_run
    rw [h] at h1
    have h2 : v = B true := by
      unfold isTrue at h1
      split at h1
      · rename_i e; cases e; rfl
      · cases h1
    subst h2
    exact (runF_ok hmix tabOK 300 14 18 [] [] _ _ h).lift (by simp) rfl A
end Go.Proofs.Ytlmbobbefgcolaa
