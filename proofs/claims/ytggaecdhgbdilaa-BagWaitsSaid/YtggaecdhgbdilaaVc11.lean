/- What the functions of package bag compute, printed. No condition. -/
import Derived.Test.YtggaecdhgbdilaaBag5
set_option linter.unusedVariables false
set_option maxRecDepth 100000
namespace Go.Proofs.Ytggaecdhgbdilaa
open Go Go.Ax

theorem vc_bawake (K : AVal El → Prop) : aexecF cnd cx Γ9 noSpec 100 Try.f23 (codeOf Try.f23) [] [] (fun y _ => K y) = ( Easy (Wk.mk (0 : Int) (OpD.mk (0 : Int) (0 : Int)
  (0 : Int) (0 : Int) false (0 : Int) (0 : Int)) false (2 : Int) [] (0 : Int) [] (0 : Int) [] (0 : Int) [] [] (0 : Int) (0 : Int) (0 : Int) (0 : Int) (0 : Int) (0 : Int) (0
  : Int) (0 : Int) (0 : Int) (0 : Int) (0 : Int) [] (0 : Int) (0 : Int) false) ∧ Easy (Wk.mk (0 : Int) (OpD.mk (0 : Int) (0 : Int) (0 : Int) (0 : Int) false (0 : Int) (0 :
  Int)) false (2 : Int) [] (3 : Int) (bagL (nowX (Wk.mk (0 : Int) (OpD.mk (0 : Int) (0 : Int) (0 : Int) (0 : Int) false (0 : Int) (0 : Int)) false (2 : Int) [] (0 : Int) []
  (0 : Int) [] (0 : Int) [] [] (0 : Int) (0 : Int) (0 : Int) (0 : Int) (0 : Int) (0 : Int) (0 : Int) (0 : Int) (0 : Int) (0 : Int) (0 : Int) [] (0 : Int) (0 : Int) false))
  (0 : Int) ++ [(7 : Int)]) (0 : Int) [] (0 : Int) [] ([] ++ bagL (Wk.mk (0 : Int) (OpD.mk (0 : Int) (0 : Int) (0 : Int) (0 : Int) false (0 : Int) (0 : Int)) false (2 :
  Int) [] (0 : Int) [] (0 : Int) [] (0 : Int) [] [] (0 : Int) (0 : Int) (0 : Int) (0 : Int) (0 : Int) (0 : Int) (0 : Int) (0 : Int) (0 : Int) (0 : Int) (0 : Int) [] (0 :
  Int) (0 : Int) false) (0 : Int)) (0 : Int) (0 : Int) (0 : Int) (0 : Int) (0 : Int) (0 : Int) (0 : Int) (0 : Int) (0 : Int) (0 : Int) (0 : Int) [] (0 : Int) (0 : Int)
  false) ∧ Easy (Wk.mk (0 : Int) (OpD.mk (0 : Int) (0 : Int) (0 : Int) (0 : Int) false (0 : Int) (0 : Int)) false (2 : Int) [] (3 : Int) (bagL (nowX (Wk.mk (0 : Int)
  (OpD.mk (0 : Int) (0 : Int) (0 : Int) (0 : Int) false (0 : Int) (0 : Int)) false (2 : Int) [] (0 : Int) [] (0 : Int) [] (0 : Int) [] [] (0 : Int) (0 : Int) (0 : Int) (0 :
  Int) (0 : Int) (0 : Int) (0 : Int) (0 : Int) (0 : Int) (0 : Int) (0 : Int) [] (0 : Int) (0 : Int) false)) (0 : Int) ++ [(7 : Int)]) (0 : Int) [] (0 : Int) [] ([] ++ bagL
  (Wk.mk (0 : Int) (OpD.mk (0 : Int) (0 : Int) (0 : Int) (0 : Int) false (0 : Int) (0 : Int)) false (2 : Int) [] (0 : Int) [] (0 : Int) [] (0 : Int) [] [] (0 : Int) (0 :
  Int) (0 : Int) (0 : Int) (0 : Int) (0 : Int) (0 : Int) (0 : Int) (0 : Int) (0 : Int) (0 : Int) [] (0 : Int) (0 : Int) false) (0 : Int) ++ bagL (ripe1 (Wk.mk (0 : Int)
  (OpD.mk (0 : Int) (0 : Int) (0 : Int) (0 : Int) false (0 : Int) (0 : Int)) false (2 : Int) [] (3 : Int) (bagL (nowX (Wk.mk (0 : Int) (OpD.mk (0 : Int) (0 : Int) (0 : Int)
  (0 : Int) false (0 : Int) (0 : Int)) false (2 : Int) [] (0 : Int) [] (0 : Int) [] (0 : Int) [] [] (0 : Int) (0 : Int) (0 : Int) (0 : Int) (0 : Int) (0 : Int) (0 : Int) (0
  : Int) (0 : Int) (0 : Int) (0 : Int) [] (0 : Int) (0 : Int) false)) (0 : Int) ++ [(7 : Int)]) (0 : Int) [] (0 : Int) [] ([] ++ bagL (Wk.mk (0 : Int) (OpD.mk (0 : Int) (0
  : Int) (0 : Int) (0 : Int) false (0 : Int) (0 : Int)) false (2 : Int) [] (0 : Int) [] (0 : Int) [] (0 : Int) [] [] (0 : Int) (0 : Int) (0 : Int) (0 : Int) (0 : Int) (0 :
  Int) (0 : Int) (0 : Int) (0 : Int) (0 : Int) (0 : Int) [] (0 : Int) (0 : Int) false) (0 : Int)) (0 : Int) (0 : Int) (0 : Int) (0 : Int) (0 : Int) (0 : Int) (0 : Int) (0 :
  Int) (0 : Int) (0 : Int) (0 : Int) [] (0 : Int) (0 : Int) false) (0 : Int) (4 : Int)) (1 : Int) ++ bagL (ripe1 (ripe1 (Wk.mk (0 : Int) (OpD.mk (0 : Int) (0 : Int) (0 :
  Int) (0 : Int) false (0 : Int) (0 : Int)) false (2 : Int) [] (3 : Int) (bagL (nowX (Wk.mk (0 : Int) (OpD.mk (0 : Int) (0 : Int) (0 : Int) (0 : Int) false (0 : Int) (0 :
  Int)) false (2 : Int) [] (0 : Int) [] (0 : Int) [] (0 : Int) [] [] (0 : Int) (0 : Int) (0 : Int) (0 : Int) (0 : Int) (0 : Int) (0 : Int) (0 : Int) (0 : Int) (0 : Int) (0
  : Int) [] (0 : Int) (0 : Int) false)) (0 : Int) ++ [(7 : Int)]) (0 : Int) [] (0 : Int) [] ([] ++ bagL (Wk.mk (0 : Int) (OpD.mk (0 : Int) (0 : Int) (0 : Int) (0 : Int)
  false (0 : Int) (0 : Int)) false (2 : Int) [] (0 : Int) [] (0 : Int) [] (0 : Int) [] [] (0 : Int) (0 : Int) (0 : Int) (0 : Int) (0 : Int) (0 : Int) (0 : Int) (0 : Int) (0
  : Int) (0 : Int) (0 : Int) [] (0 : Int) (0 : Int) false) (0 : Int)) (0 : Int) (0 : Int) (0 : Int) (0 : Int) (0 : Int) (0 : Int) (0 : Int) (0 : Int) (0 : Int) (0 : Int) (0
  : Int) [] (0 : Int) (0 : Int) false) (0 : Int) (4 : Int)) (1 : Int) (4 : Int)) (2 : Int)) (0 : Int) (0 : Int) (0 : Int) (0 : Int) (0 : Int) (0 : Int) (0 : Int) (0 : Int)
  (0 : Int) (0 : Int) (0 : Int) [] (0 : Int) (0 : Int) false) ∧ Easy (Wk.mk (0 : Int) (OpD.mk (0 : Int) (0 : Int) (0 : Int) (0 : Int) false (0 : Int) (0 : Int)) false (2 :
  Int) [] (3 : Int) (bagL (nowX (Wk.mk (0 : Int) (OpD.mk (0 : Int) (0 : Int) (0 : Int) (0 : Int) false (0 : Int) (0 : Int)) false (2 : Int) [] (0 : Int) [] (0 : Int) [] (0
  : Int) [] [] (0 : Int) (0 : Int) (0 : Int) (0 : Int) (0 : Int) (0 : Int) (0 : Int) (0 : Int) (0 : Int) (0 : Int) (0 : Int) [] (0 : Int) (0 : Int) false)) (0 : Int) ++ [(7
  : Int)]) (0 : Int) [] (0 : Int) [] ([] ++ bagL (Wk.mk (0 : Int) (OpD.mk (0 : Int) (0 : Int) (0 : Int) (0 : Int) false (0 : Int) (0 : Int)) false (2 : Int) [] (0 : Int) []
  (0 : Int) [] (0 : Int) [] [] (0 : Int) (0 : Int) (0 : Int) (0 : Int) (0 : Int) (0 : Int) (0 : Int) (0 : Int) (0 : Int) (0 : Int) (0 : Int) [] (0 : Int) (0 : Int) false)
  (0 : Int)) (0 : Int) (0 : Int) (0 : Int) (0 : Int) (0 : Int) (0 : Int) (0 : Int) (0 : Int) (0 : Int) (0 : Int) (0 : Int) [] (0 : Int) (0 : Int) false) ∧ Easy (Wk.mk (0 :
  Int) (OpD.mk (0 : Int) (0 : Int) (0 : Int) (0 : Int) false (0 : Int) (0 : Int)) false (2 : Int) [] (0 : Int) [] (0 : Int) [] (0 : Int) [] ([] ++ bagL (Wk.mk (0 : Int)
  (OpD.mk (0 : Int) (0 : Int) (0 : Int) (0 : Int) false (0 : Int) (0 : Int)) false (2 : Int) [] (0 : Int) [] (0 : Int) [] (0 : Int) [] [] (0 : Int) (0 : Int) (0 : Int) (0 :
  Int) (0 : Int) (0 : Int) (0 : Int) (0 : Int) (0 : Int) (0 : Int) (0 : Int) [] (0 : Int) (0 : Int) false) (0 : Int) ++ bagL (Wk.mk (0 : Int) (OpD.mk (0 : Int) (0 : Int) (0
  : Int) (0 : Int) false (0 : Int) (0 : Int)) false (2 : Int) [] (3 : Int) (bagL (nowX (Wk.mk (0 : Int) (OpD.mk (0 : Int) (0 : Int) (0 : Int) (0 : Int) false (0 : Int) (0 :
  Int)) false (2 : Int) [] (0 : Int) [] (0 : Int) [] (0 : Int) [] [] (0 : Int) (0 : Int) (0 : Int) (0 : Int) (0 : Int) (0 : Int) (0 : Int) (0 : Int) (0 : Int) (0 : Int) (0
  : Int) [] (0 : Int) (0 : Int) false)) (0 : Int) ++ [(7 : Int)]) (0 : Int) [] (0 : Int) [] ([] ++ bagL (Wk.mk (0 : Int) (OpD.mk (0 : Int) (0 : Int) (0 : Int) (0 : Int)
  false (0 : Int) (0 : Int)) false (2 : Int) [] (0 : Int) [] (0 : Int) [] (0 : Int) [] [] (0 : Int) (0 : Int) (0 : Int) (0 : Int) (0 : Int) (0 : Int) (0 : Int) (0 : Int) (0
  : Int) (0 : Int) (0 : Int) [] (0 : Int) (0 : Int) false) (0 : Int)) (0 : Int) (0 : Int) (0 : Int) (0 : Int) (0 : Int) (0 : Int) (0 : Int) (0 : Int) (0 : Int) (0 : Int) (0
  : Int) [] (0 : Int) (0 : Int) false) (0 : Int) ++ bagL (ripe1 (Wk.mk (0 : Int) (OpD.mk (0 : Int) (0 : Int) (0 : Int) (0 : Int) false (0 : Int) (0 : Int)) false (2 : Int)
  [] (3 : Int) (bagL (nowX (Wk.mk (0 : Int) (OpD.mk (0 : Int) (0 : Int) (0 : Int) (0 : Int) false (0 : Int) (0 : Int)) false (2 : Int) [] (0 : Int) [] (0 : Int) [] (0 :
  Int) [] [] (0 : Int) (0 : Int) (0 : Int) (0 : Int) (0 : Int) (0 : Int) (0 : Int) (0 : Int) (0 : Int) (0 : Int) (0 : Int) [] (0 : Int) (0 : Int) false)) (0 : Int) ++ [(7 :
  Int)]) (0 : Int) [] (0 : Int) [] ([] ++ bagL (Wk.mk (0 : Int) (OpD.mk (0 : Int) (0 : Int) (0 : Int) (0 : Int) false (0 : Int) (0 : Int)) false (2 : Int) [] (0 : Int) []
  (0 : Int) [] (0 : Int) [] [] (0 : Int) (0 : Int) (0 : Int) (0 : Int) (0 : Int) (0 : Int) (0 : Int) (0 : Int) (0 : Int) (0 : Int) (0 : Int) [] (0 : Int) (0 : Int) false)
  (0 : Int)) (0 : Int) (0 : Int) (0 : Int) (0 : Int) (0 : Int) (0 : Int) (0 : Int) (0 : Int) (0 : Int) (0 : Int) (0 : Int) [] (0 : Int) (0 : Int) false) (0 : Int) (5 :
  Int)) (1 : Int) ++ bagL (ripe1 (ripe1 (Wk.mk (0 : Int) (OpD.mk (0 : Int) (0 : Int) (0 : Int) (0 : Int) false (0 : Int) (0 : Int)) false (2 : Int) [] (3 : Int) (bagL (nowX
  (Wk.mk (0 : Int) (OpD.mk (0 : Int) (0 : Int) (0 : Int) (0 : Int) false (0 : Int) (0 : Int)) false (2 : Int) [] (0 : Int) [] (0 : Int) [] (0 : Int) [] [] (0 : Int) (0 :
  Int) (0 : Int) (0 : Int) (0 : Int) (0 : Int) (0 : Int) (0 : Int) (0 : Int) (0 : Int) (0 : Int) [] (0 : Int) (0 : Int) false)) (0 : Int) ++ [(7 : Int)]) (0 : Int) [] (0 :
  Int) [] ([] ++ bagL (Wk.mk (0 : Int) (OpD.mk (0 : Int) (0 : Int) (0 : Int) (0 : Int) false (0 : Int) (0 : Int)) false (2 : Int) [] (0 : Int) [] (0 : Int) [] (0 : Int) []
  [] (0 : Int) (0 : Int) (0 : Int) (0 : Int) (0 : Int) (0 : Int) (0 : Int) (0 : Int) (0 : Int) (0 : Int) (0 : Int) [] (0 : Int) (0 : Int) false) (0 : Int)) (0 : Int) (0 :
  Int) (0 : Int) (0 : Int) (0 : Int) (0 : Int) (0 : Int) (0 : Int) (0 : Int) (0 : Int) (0 : Int) [] (0 : Int) (0 : Int) false) (0 : Int) (5 : Int)) (1 : Int) (5 : Int)) (2
  : Int)) (0 : Int) (0 : Int) (0 : Int) (0 : Int) (0 : Int) (0 : Int) (0 : Int) (0 : Int) (0 : Int) (0 : Int) (0 : Int) [] (0 : Int) (0 : Int) false) ∧ K (AVal.bool true))
  := by kernel_rfl

end Go.Proofs.Ytggaecdhgbdilaa
