/- What the functions on lists come to, by the executor; printed by a program of mine. No condition. -/
import Derived.Test.YtggaecdhgbdilaaLists
set_option linter.unusedVariables false
set_option maxRecDepth 100000
set_option maxHeartbeats 4000000
namespace Go.Proofs.Ytggaecdhgbdilaa
open Go Go.Ax

theorem vc_eq32 (K : Bool → Prop) (a b : List Int) : aexecF cnd cx noΓ (specE 13 a b) 100 Try.f32 (codeOf Try.f32) (Cd.enc (.pair aL aL) (a, b)) [] (fun y R => rd cdB
  (settleA R y) K) = ( cnd ((↑(List.length a) : Int) != (↑(List.length b) : Int)) (K false) ((∃ (s0 : Nat), (s0 ≤ List.length a ∧ sameS (List.drop (0 : Nat) a) (List.drop
  (0 : Nat) b) = sameS (List.drop s0 a) (List.drop s0 b)) ∧ (EqA (AVal.int IntKind.i64 (0 : Int)) (AVal.int IntKind.i64 (↑s0 : Int)) ∧ True) ∧ True ∧ True) ∧ ∀ (s : Nat), s
  ≤ List.length a ∧ sameS (List.drop (0 : Nat) a) (List.drop (0 : Nat) b) = sameS (List.drop s a) (List.drop s b) → cnd (decide ((↑s : Int) < (↑(List.length a) : Int)))
  (((0 : Int) ≤ (↑s : Int) ∧ (↑s : Int) < (↑(List.length a) : Int)) ∧ ((0 : Int) ≤ (↑s : Int) ∧ (↑s : Int) < (↑(List.length b) : Int)) ∧ cnd (List.getD a (Int.toNat (↑s :
  Int)) (0 : Int) != List.getD b (Int.toNat (↑s : Int)) (0 : Int)) (K false) (∃ (s' : Nat), (s' ≤ List.length a ∧ sameS (List.drop (0 : Nat) a) (List.drop (0 : Nat) b) =
  sameS (List.drop s' a) (List.drop s' b)) ∧ List.length a - s' < List.length a - s ∧ (EqA (AVal.int IntKind.i64 (IntKind.wrap IntKind.i64 ((↑s : Int) + (1 : Int))))
  (AVal.int IntKind.i64 (↑s' : Int)) ∧ True) ∧ True ∧ True)) (K true))) := by kernel_rfl

theorem vc_eq33 (K : Bool → Prop) (a b : List Int) : aexecF cnd cx noΓ (specE 13 a b) 100 Try.f33 (codeOf Try.f33) (Cd.enc (.pair aW aW) (a, b)) [] (fun y R => rd cdB
  (settleA R y) K) = ( cnd ((↑(List.length a) : Int) != (↑(List.length b) : Int)) (K false) ((∃ (s0 : Nat), (s0 ≤ List.length a ∧ sameS (List.drop (0 : Nat) a) (List.drop
  (0 : Nat) b) = sameS (List.drop s0 a) (List.drop s0 b)) ∧ (EqA (AVal.int IntKind.i64 (0 : Int)) (AVal.int IntKind.i64 (↑s0 : Int)) ∧ True) ∧ True ∧ True) ∧ ∀ (s : Nat), s
  ≤ List.length a ∧ sameS (List.drop (0 : Nat) a) (List.drop (0 : Nat) b) = sameS (List.drop s a) (List.drop s b) → cnd (decide ((↑s : Int) < (↑(List.length a) : Int)))
  (((0 : Int) ≤ (↑s : Int) ∧ (↑s : Int) < (↑(List.length a) : Int)) ∧ ((0 : Int) ≤ (↑s : Int) ∧ (↑s : Int) < (↑(List.length b) : Int)) ∧ cnd (List.getD a (Int.toNat (↑s :
  Int)) (0 : Int) != List.getD b (Int.toNat (↑s : Int)) (0 : Int)) (K false) (∃ (s' : Nat), (s' ≤ List.length a ∧ sameS (List.drop (0 : Nat) a) (List.drop (0 : Nat) b) =
  sameS (List.drop s' a) (List.drop s' b)) ∧ List.length a - s' < List.length a - s ∧ (EqA (AVal.int IntKind.i64 (IntKind.wrap IntKind.i64 ((↑s : Int) + (1 : Int))))
  (AVal.int IntKind.i64 (↑s' : Int)) ∧ True) ∧ True ∧ True)) (K true))) := by kernel_rfl

theorem vc_eq34 (K : Bool → Prop) (a b : List Int) : aexecF cnd cx noΓ (specE 5 a b) 100 Try.f34 (codeOf Try.f34) (Cd.enc (.pair aL aL) (a, b)) [] (fun y R => rd cdB
  (settleA R y) K) = ( cnd ((↑(List.length a) : Int) != (↑(List.length b) : Int)) (K false) ((∃ (s0 : Nat), (s0 ≤ List.length a ∧ sameS (List.drop (0 : Nat) a) (List.drop
  (0 : Nat) b) = sameS (List.drop s0 a) (List.drop s0 b)) ∧ (EqA (AVal.int IntKind.i64 (0 : Int)) (AVal.int IntKind.i64 (↑s0 : Int)) ∧ True) ∧ True ∧ True) ∧ ∀ (s : Nat), s
  ≤ List.length a ∧ sameS (List.drop (0 : Nat) a) (List.drop (0 : Nat) b) = sameS (List.drop s a) (List.drop s b) → cnd (decide ((↑s : Int) < (↑(List.length a) : Int)))
  (((0 : Int) ≤ (↑s : Int) ∧ (↑s : Int) < (↑(List.length a) : Int)) ∧ ((0 : Int) ≤ (↑s : Int) ∧ (↑s : Int) < (↑(List.length b) : Int)) ∧ cnd (List.getD a (Int.toNat (↑s :
  Int)) (0 : Int) != List.getD b (Int.toNat (↑s : Int)) (0 : Int)) (K false) (∃ (s' : Nat), (s' ≤ List.length a ∧ sameS (List.drop (0 : Nat) a) (List.drop (0 : Nat) b) =
  sameS (List.drop s' a) (List.drop s' b)) ∧ List.length a - s' < List.length a - s ∧ (EqA (AVal.int IntKind.i64 (IntKind.wrap IntKind.i64 ((↑s : Int) + (1 : Int))))
  (AVal.int IntKind.i64 (↑s' : Int)) ∧ True) ∧ True ∧ True)) (K true))) := by kernel_rfl

theorem vc_eq35 (K : Bool → Prop) (a b : List Int) : aexecF cnd cx noΓ (specE 5 a b) 100 Try.f35 (codeOf Try.f35) (Cd.enc (.pair aW aW) (a, b)) [] (fun y R => rd cdB
  (settleA R y) K) = ( cnd ((↑(List.length a) : Int) != (↑(List.length b) : Int)) (K false) ((∃ (s0 : Nat), (s0 ≤ List.length a ∧ sameS (List.drop (0 : Nat) a) (List.drop
  (0 : Nat) b) = sameS (List.drop s0 a) (List.drop s0 b)) ∧ (EqA (AVal.int IntKind.i64 (0 : Int)) (AVal.int IntKind.i64 (↑s0 : Int)) ∧ True) ∧ True ∧ True) ∧ ∀ (s : Nat), s
  ≤ List.length a ∧ sameS (List.drop (0 : Nat) a) (List.drop (0 : Nat) b) = sameS (List.drop s a) (List.drop s b) → cnd (decide ((↑s : Int) < (↑(List.length a) : Int)))
  (((0 : Int) ≤ (↑s : Int) ∧ (↑s : Int) < (↑(List.length a) : Int)) ∧ ((0 : Int) ≤ (↑s : Int) ∧ (↑s : Int) < (↑(List.length b) : Int)) ∧ cnd (List.getD a (Int.toNat (↑s :
  Int)) (0 : Int) != List.getD b (Int.toNat (↑s : Int)) (0 : Int)) (K false) (∃ (s' : Nat), (s' ≤ List.length a ∧ sameS (List.drop (0 : Nat) a) (List.drop (0 : Nat) b) =
  sameS (List.drop s' a) (List.drop s' b)) ∧ List.length a - s' < List.length a - s ∧ (EqA (AVal.int IntKind.i64 (IntKind.wrap IntKind.i64 ((↑s : Int) + (1 : Int))))
  (AVal.int IntKind.i64 (↑s' : Int)) ∧ True) ∧ True ∧ True)) (K true))) := by kernel_rfl

theorem vc_idx (K : Int → Prop) (a : List Int) (v : Int) : aexecF cnd cx noΓ (specI a v) 100 Try.f46 (codeOf Try.f46) (Cd.enc (.pair aL aI) (a, v)) [] (fun y R => rd aI
  (settleA R y) K) = ( (∃ (s0 : Nat), (s0 ≤ List.length a ∧ idxS (List.drop (0 : Nat) a) v (0 : Nat) = idxS (List.drop s0 a) v s0) ∧ (EqA (AVal.int IntKind.i64 (0 : Int))
  (AVal.int IntKind.i64 (↑s0 : Int)) ∧ True) ∧ True ∧ True) ∧ ∀ (s : Nat), s ≤ List.length a ∧ idxS (List.drop (0 : Nat) a) v (0 : Nat) = idxS (List.drop s a) v s → cnd
  (decide ((↑s : Int) < (↑(List.length a) : Int))) (((0 : Int) ≤ (↑s : Int) ∧ (↑s : Int) < (↑(List.length a) : Int)) ∧ cnd (v == List.getD a (Int.toNat (↑s : Int)) (0 :
  Int)) (K (↑s : Int)) (∃ (s' : Nat), (s' ≤ List.length a ∧ idxS (List.drop (0 : Nat) a) v (0 : Nat) = idxS (List.drop s' a) v s') ∧ List.length a - s' < List.length a - s
  ∧ (EqA (AVal.int IntKind.i64 (IntKind.wrap IntKind.i64 ((↑s : Int) + (1 : Int)))) (AVal.int IntKind.i64 (↑s' : Int)) ∧ True) ∧ True ∧ True)) (K (-1 : Int))) := by
  kernel_rfl

theorem vc_has (K : Bool → Prop) (a : List Int) (v : Int) : aexecF cnd cx Γ1 noSpec 100 Try.f43 (codeOf Try.f43) (Cd.enc (.pair aL aI) (a, v)) [] (fun y R => rd cdB
  (settleA R y) K) = ( small a ∧ K (decide (idxS a v (0 : Nat) ≥ (0 : Int)))) := by kernel_rfl

theorem vc_clone (K : List Int → Prop) (a : List Int) : aexecF cnd cx noΓ noSpec 100 Try.f36 (codeOf Try.f36) (aL.enc a) [] (fun y R => rdV 3 R y K) = ( cnd (List.isEmpty
  a) (K [] ∧ (((0 : Nat) + List.length a) * (8 : Nat) ≤ (140737488355328 : Nat) ∧ (0 : Nat) + List.length a ≤ (140737488355328 : Nat)) ∧ K ([] ++ a)) ((((0 : Nat) +
  List.length a) * (8 : Nat) ≤ (140737488355328 : Nat) ∧ (0 : Nat) + List.length a ≤ (140737488355328 : Nat)) ∧ K ([] ++ a))) := by kernel_rfl

theorem vc_clonew (K : List Int → Prop) (a : List Int) : aexecF cnd cx noΓ noSpec 100 Try.f37 (codeOf Try.f37) (aW.enc a) [] (fun y R => rdV 22 R y K) = ( cnd
  (List.isEmpty a) (K [] ∧ (((0 : Nat) + List.length a) * (8 : Nat) ≤ (140737488355328 : Nat) ∧ (0 : Nat) + List.length a ≤ (140737488355328 : Nat)) ∧ K ([] ++ a)) ((((0 :
  Nat) + List.length a) * (8 : Nat) ≤ (140737488355328 : Nat) ∧ (0 : Nat) + List.length a ≤ (140737488355328 : Nat)) ∧ K ([] ++ a))) := by kernel_rfl

end Go.Proofs.Ytggaecdhgbdilaa
