import Derived.Test.YtnnbggcckabhdaaM1
namespace Go.Proofs.Ytnnbggcckabhdaa
open Go Go.Eng
theorem hmix : Try.prog.follows .mixedOrders = true := by kernel_rfl
def tab : List (Nat × MFun) := [(19, m19), (20, m20), (22, m22), (28, m28), (37, m37), (61, m61), (62, m62), (63, m63), (64, m64), (65, m65), (73, m73), (78, m78), (80, m80), (101, m101), (102, m102), (103, m103), (106, m106), (107, m107), (108, m108), (109, m109), (110, m110), (112, m112), (72, m72), (77, m77), (100, m100), (111, m111), (118, m118), (119, m119)]
theorem tabOK : TabOK Try.prog tab :=
  .cons Try.func19 (by kernel_rfl) t19 <| .cons Try.func20 (by kernel_rfl) t20 <| .cons Try.func22 (by kernel_rfl) t22 <| .cons Try.func28 (by kernel_rfl) t28 <| .cons Try.func37 (by kernel_rfl) t37 <| .cons Try.func61 (by kernel_rfl) t61 <| .cons Try.func62 (by kernel_rfl) t62 <| .cons Try.func63 (by kernel_rfl) t63 <| .cons Try.func64 (by kernel_rfl) t64 <| .cons Try.func65 (by kernel_rfl) t65 <| .cons Try.func73 (by kernel_rfl) t73 <| .cons Try.func78 (by kernel_rfl) t78 <| .cons Try.func80 (by kernel_rfl) t80 <| .cons Try.func101 (by kernel_rfl) t101 <| .cons Try.func102 (by kernel_rfl) t102 <| .cons Try.func103 (by kernel_rfl) t103 <| .cons Try.func106 (by kernel_rfl) t106 <| .cons Try.func107 (by kernel_rfl) t107 <| .cons Try.func108 (by kernel_rfl) t108 <| .cons Try.func109 (by kernel_rfl) t109 <| .cons Try.func110 (by kernel_rfl) t110 <| .cons Try.func112 (by kernel_rfl) t112 <| .cons Try.func72 (by kernel_rfl) t72 <| .cons Try.func77 (by kernel_rfl) t77 <| .cons Try.func100 (by kernel_rfl) t100 <| .cons Try.func111 (by kernel_rfl) t111 <| .cons Try.func118 (by kernel_rfl) t118 <| .cons Try.func119 (by kernel_rfl) t119 <|  .nil
def isTrue : Option (AV × AHeap) → Bool
  | some (.bool true, _) => true
  | _ => false
set_option maxRecDepth 100000 in
theorem known_run : isTrue (runF tab 300 12 19 [] []) = true := by kernel_rfl
theorem known (A : AHeap) : ACalls Try.prog 19 [] A (B true) A := by
  cases h : runF tab 300 12 19 [] [] with
  | none => have := known_run; rw [h] at this; cases this
  | some p =>
    obtain ⟨v, A'⟩ := p
    have h1 := known_run
    rw [h] at h1
    have h2 : v = B true := by
      unfold isTrue at h1
      split at h1
      · rename_i e; cases e; rfl
      · cases h1
    subst h2
    exact (runF_ok hmix tabOK 300 12 19 [] [] _ _ h).lift (by simp) rfl A
end Go.Proofs.Ytnnbggcckabhdaa
