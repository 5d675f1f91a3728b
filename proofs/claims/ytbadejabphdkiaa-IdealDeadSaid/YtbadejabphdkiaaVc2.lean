/- The limits of the ideal pool's laws: what the code computes. Printed by a program; no condition. -/
import Derived.Test.YtbadejabphdkiaaPool2
set_option linter.unusedVariables false
set_option maxHeartbeats 4000000
set_option maxRecDepth 100000
namespace Go.Proofs.Ytbadejabphdkiaa
open Go Go.Ax

theorem vc_great (K : Bool → Prop) (l : List Ans) : aexecF cnd cx noΓ (specG l) 100 Try.f5 (codeOf Try.f5) (aAs.enc l) [] (fun y R => rd cdB (settleA R y) K) = ( cnd
  (decide ((↑(List.length l) : Int) > (60 : Int))) (K true) ((∃ (s0 : Nat), (s0 ≤ List.length l ∧ longL l = longL (List.drop s0 l)) ∧ (EqA (AVal.int IntKind.i64 (0 : Int))
  (AVal.int IntKind.i64 (↑s0 : Int)) ∧ True) ∧ True ∧ True) ∧ ∀ (s : Nat), s ≤ List.length l ∧ longL l = longL (List.drop s l) → cnd (decide ((↑s : Int) < (↑(List.length l)
  : Int))) (((0 : Int) ≤ (↑s : Int) ∧ (↑s : Int) < (↑(List.length l) : Int)) ∧ cnd (decide ((↑(List.length (List.getD l (Int.toNat (↑s : Int)) (Ytbadejabphdkiaa.K.dflt (tab
  (36 : TypeId)))).read) : Int) > (10 : Int))) (K true) (∃ (s' : Nat), (s' ≤ List.length l ∧ longL l = longL (List.drop s' l)) ∧ List.length l - s' < List.length l - s ∧
  (EqA (AVal.int IntKind.i64 (IntKind.wrap IntKind.i64 ((↑s : Int) + (1 : Int)))) (AVal.int IntKind.i64 (↑s' : Int)) ∧ True) ∧ True ∧ True)) (K false))) := by kernel_rfl

end Go.Proofs.Ytbadejabphdkiaa
