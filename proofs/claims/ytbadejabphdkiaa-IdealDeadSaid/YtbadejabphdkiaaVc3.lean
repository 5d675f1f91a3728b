/- IdealDead: what its code computes. Printed by a program; no condition. -/
import Derived.Test.YtbadejabphdkiaaPool3
set_option linter.unusedVariables false
set_option maxHeartbeats 4000000
set_option maxRecDepth 100000
namespace Go.Proofs.Ytbadejabphdkiaa
open Go Go.Ax

theorem vc_dead (K : AVal El → Prop) (w : Int) (l : List Ans) : aexecF cnd cx Γg (specDead l) 300 Try.f3 (codeOf Try.f3) (aDeadL.enc (w, l)) [] (fun y _ => K y) = ( True
  ∧ True ∧ cnd (greatL l) (K (AVal.bool true)) ((∃ (s0 : Int), ((0 : Int) ≤ s0 ∧ s0 ≤ (4 : Int)) ∧ (True ∧ True) ∧ (EqR (Res.cells (44 : Nat) [AVal.int IntKind.i64 (if true
  = true then if (4 : Int) < if false = true then if (0 : Int) < w then (0 : Int) else w else if (0 : Int) > w then (0 : Int) else w then (4 : Int) else if false = true
  then if (0 : Int) < w then (0 : Int) else w else if (0 : Int) > w then (0 : Int) else w else if (4 : Int) > if false = true then if (0 : Int) < w then (0 : Int) else w
  else if (0 : Int) > w then (0 : Int) else w then (4 : Int) else if false = true then if (0 : Int) < w then (0 : Int) else w else if (0 : Int) > w then (0 : Int) else w),
  AVal.nilm, AVal.nilm]) (Res.cells (44 : Nat) [AVal.int IntKind.i64 s0, AVal.nilm, AVal.nilm]) ∧ True) ∧ True) ∧ ∀ (s : Int), (0 : Int) ≤ s ∧ s ≤ (4 : Int) → ((0 : Int) ≤
  (↑(List.length l) : Int) ∧ (↑(List.length l) : Int) = (↑(List.length l) : Int) ∧ (↑(1 : Nat) : Int) * (↑(List.length l) : Int) ≤ (140737488355328 : Int) ∧ (↑(List.length
  l) : Int) ≤ (140737488355328 : Int)) ∧ cnd (decide ((0 : Int) < (↑(List.length l) : Int))) (((0 : Int) ≤ (0 : Int) ∧ (0 : Int) < (↑(List.length l) : Int)) ∧ (((0 : Int) ≤
  (0 : Int) ∧ (0 : Int) < (↑(List.length l) : Int)) ∧ ∃ (s0 : Unit), True ∧ (EqA (AVal.bool false) (AVal.bool false) ∧ True) ∧ (EqR (Res.cells (44 : Nat) [AVal.int
  IntKind.i64 s, AVal.nilm, AVal.nilm]) (Res.cells (44 : Nat) [AVal.int IntKind.i64 s, AVal.nilm, AVal.nilm]) ∧ EqR (Res.vec (4 : Nat) (List.replicate (Int.toNat
  (↑(List.length l) : Int)) (Ytbadejabphdkiaa.K.dflt (tab (4 : Nat))))) (Res.vec (4 : Nat) (List.replicate (Int.toNat (↑(List.length l) : Int)) (Ytbadejabphdkiaa.K.dflt
  (tab (4 : Nat))))) ∧ True) ∧ True) ∧ ∀ (s_1 : Unit), True → (((0 : Int) ≤ (0 : Int) ∧ (0 : Int) < (↑(List.length l) : Int)) ∧ cnd ((List.getD l (0 : Nat)
  (Ytbadejabphdkiaa.K.dflt (tab (36 : TypeId)))).op.k == (1 : Int)) (∃ (s0 : Bool × MapL × MapD), StepRel (List.getD l (0 : Nat) ansD) [] [] s0.fst s0.snd.fst s0.snd.snd ∧
  (EqA (AVal.bool true) (AVal.bool s0.fst) ∧ True) ∧ ((True ∧ EqA (AVal.int IntKind.i64 s) (AVal.int IntKind.i64 s) ∧ True ∧ True ∧ True) ∧ EqR (Res.vec (4 : Nat)
  (List.replicate (Int.toNat (↑(List.length l) : Int)) (Ytbadejabphdkiaa.K.dflt (tab (4 : Nat))))) (Res.vec (4 : Nat) (List.replicate (Int.toNat (↑(List.length l) : Int))
  (Ytbadejabphdkiaa.K.dflt (tab (4 : Nat))))) ∧ EqR (Res.mapS IntKind.u64 (28 : Nat) []) (Res.mapS IntKind.u64 (28 : Nat) s0.snd.fst) ∧ EqR (Res.mapS IntKind.u64 (4 : Nat)
  []) (Res.mapS IntKind.u64 (4 : Nat) s0.snd.snd) ∧ True) ∧ True) (cnd ((List.getD l (0 : Nat) (Ytbadejabphdkiaa.K.dflt (tab (36 : TypeId)))).op.k == (2 : Int)) (∃ (s0 :
  Bool × MapL × MapD), StepRel (List.getD l (0 : Nat) ansD) [] [] s0.fst s0.snd.fst s0.snd.snd ∧ (EqA (AVal.bool true) (AVal.bool s0.fst) ∧ True) ∧ ((True ∧ EqA (AVal.int
  IntKind.i64 s) (AVal.int IntKind.i64 s) ∧ True ∧ True ∧ True) ∧ EqR (Res.vec (4 : Nat) (List.replicate (Int.toNat (↑(List.length l) : Int)) (Ytbadejabphdkiaa.K.dflt (tab
  (4 : Nat))))) (Res.vec (4 : Nat) (List.replicate (Int.toNat (↑(List.length l) : Int)) (Ytbadejabphdkiaa.K.dflt (tab (4 : Nat))))) ∧ EqR (Res.mapS IntKind.u64 (28 : Nat)
  []) (Res.mapS IntKind.u64 (28 : Nat) s0.snd.fst) ∧ EqR (Res.mapS IntKind.u64 (4 : Nat) []) (Res.mapS IntKind.u64 (4 : Nat) s0.snd.snd) ∧ True) ∧ True) (cnd ((List.getD l
  (0 : Nat) (Ytbadejabphdkiaa.K.dflt (tab (36 : TypeId)))).op.k == (7 : Int)) (∃ (s0 : Bool × MapL × MapD), StepRel (List.getD l (0 : Nat) ansD) [] [] s0.fst s0.snd.fst
  s0.snd.snd ∧ (EqA (AVal.bool true) (AVal.bool s0.fst) ∧ True) ∧ ((True ∧ EqA (AVal.int IntKind.i64 s) (AVal.int IntKind.i64 s) ∧ True ∧ True ∧ True) ∧ EqR (Res.vec (4 :
  Nat) (List.replicate (Int.toNat (↑(List.length l) : Int)) (Ytbadejabphdkiaa.K.dflt (tab (4 : Nat))))) (Res.vec (4 : Nat) (List.replicate (Int.toNat (↑(List.length l) :
  Int)) (Ytbadejabphdkiaa.K.dflt (tab (4 : Nat))))) ∧ EqR (Res.mapS IntKind.u64 (28 : Nat) []) (Res.mapS IntKind.u64 (28 : Nat) s0.snd.fst) ∧ EqR (Res.mapS IntKind.u64 (4 :
  Nat) []) (Res.mapS IntKind.u64 (4 : Nat) s0.snd.snd) ∧ True) ∧ True) (cnd ((List.getD l (0 : Nat) (Ytbadejabphdkiaa.K.dflt (tab (36 : TypeId)))).op.k == (8 : Int)) (∃ (s0
  : Bool × MapL × MapD), StepRel (List.getD l (0 : Nat) ansD) [] [] s0.fst s0.snd.fst s0.snd.snd ∧ (EqA (AVal.bool true) (AVal.bool s0.fst) ∧ True) ∧ ((True ∧ EqA (AVal.int
  IntKind.i64 s) (AVal.int IntKind.i64 s) ∧ True ∧ True ∧ True) ∧ EqR (Res.vec (4 : Nat) (List.replicate (Int.toNat (↑(List.length l) : Int)) (Ytbadejabphdkiaa.K.dflt (tab
  (4 : Nat))))) (Res.vec (4 : Nat) (List.replicate (Int.toNat (↑(List.length l) : Int)) (Ytbadejabphdkiaa.K.dflt (tab (4 : Nat))))) ∧ EqR (Res.mapS IntKind.u64 (28 : Nat)
  []) (Res.mapS IntKind.u64 (28 : Nat) s0.snd.fst) ∧ EqR (Res.mapS IntKind.u64 (4 : Nat) []) (Res.mapS IntKind.u64 (4 : Nat) s0.snd.snd) ∧ True) ∧ True) (cnd ((List.getD l
  (0 : Nat) (Ytbadejabphdkiaa.K.dflt (tab (36 : TypeId)))).op.k == (9 : Int)) (∃ (s0 : Bool × MapL × MapD), StepRel (List.getD l (0 : Nat) ansD) [] [] s0.fst s0.snd.fst
  s0.snd.snd ∧ (EqA (AVal.bool true) (AVal.bool s0.fst) ∧ True) ∧ ((True ∧ EqA (AVal.int IntKind.i64 s) (AVal.int IntKind.i64 s) ∧ True ∧ True ∧ True) ∧ EqR (Res.vec (4 :
  Nat) (List.replicate (Int.toNat (↑(List.length l) : Int)) (Ytbadejabphdkiaa.K.dflt (tab (4 : Nat))))) (Res.vec (4 : Nat) (List.replicate (Int.toNat (↑(List.length l) :
  Int)) (Ytbadejabphdkiaa.K.dflt (tab (4 : Nat))))) ∧ EqR (Res.mapS IntKind.u64 (28 : Nat) []) (Res.mapS IntKind.u64 (28 : Nat) s0.snd.fst) ∧ EqR (Res.mapS IntKind.u64 (4 :
  Nat) []) (Res.mapS IntKind.u64 (4 : Nat) s0.snd.snd) ∧ True) ∧ True) (((0 : Int) ≤ (0 : Int) ∧ (0 : Int) < (↑(3 : Nat) : Int)) ∧ (0 : Nat) < (3 : Nat) ∧ ((0 : Int) ≤ (0 :
  Int) ∧ (0 : Int) < (↑(2 : Nat) : Int)) ∧ (0 : Nat) < (2 : Nat) ∧ ((0 : Int) ≤ (1 : Int) ∧ (1 : Int) < (↑(2 : Nat) : Int)) ∧ (1 : Nat) < (2 : Nat) ∧ ((0 : Int) ≤ (1 : Int)
  ∧ (1 : Int) < (↑(3 : Nat) : Int)) ∧ (1 : Nat) < (3 : Nat) ∧ ((0 : Int) ≤ (0 : Int) ∧ (0 : Int) < (↑(2 : Nat) : Int)) ∧ (0 : Nat) < (2 : Nat) ∧ ((0 : Int) ≤ (1 : Int) ∧ (1
  : Int) < (↑(2 : Nat) : Int)) ∧ (1 : Nat) < (2 : Nat) ∧ ((0 : Int) ≤ (2 : Int) ∧ (2 : Int) < (↑(3 : Nat) : Int)) ∧ (2 : Nat) < (3 : Nat) ∧ ((0 : Int) ≤ (0 : Int) ∧ (0 :
  Int) < (↑(2 : Nat) : Int)) ∧ (0 : Nat) < (2 : Nat) ∧ ((0 : Int) ≤ (1 : Int) ∧ (1 : Int) < (↑(2 : Nat) : Int)) ∧ (1 : Nat) < (2 : Nat) ∧ ((0 : Int) ≤ (0 : Int) ∧ (0 : Int)
  < (↑(3 : Nat) : Int)) ∧ (0 : Nat) < (3 : Nat) ∧ ((0 : Int) ≤ (0 : Int) ∧ (0 : Int) < (↑(2 : Nat) : Int)) ∧ (0 : Nat) < (2 : Nat) ∧ ((0 : Int) ≤ (1 : Int) ∧ (1 : Int) <
  (↑(2 : Nat) : Int)) ∧ (1 : Nat) < (2 : Nat) ∧ ((0 : Int) ≤ (1 : Int) ∧ (1 : Int) < (↑(3 : Nat) : Int)) ∧ (1 : Nat) < (3 : Nat) ∧ ((0 : Int) ≤ (0 : Int) ∧ (0 : Int) < (↑(2
  : Nat) : Int)) ∧ (0 : Nat) < (2 : Nat) ∧ ((0 : Int) ≤ (1 : Int) ∧ (1 : Int) < (↑(2 : Nat) : Int)) ∧ (1 : Nat) < (2 : Nat) ∧ ((0 : Int) ≤ (2 : Int) ∧ (2 : Int) < (↑(3 :
  Nat) : Int)) ∧ (2 : Nat) < (3 : Nat) ∧ ((0 : Int) ≤ (0 : Int) ∧ (0 : Int) < (↑(2 : Nat) : Int)) ∧ (0 : Nat) < (2 : Nat) ∧ ((0 : Int) ≤ (1 : Int) ∧ (1 : Int) < (↑(2 : Nat)
  : Int)) ∧ (1 : Nat) < (2 : Nat) ∧ cnd ((List.getD l (0 : Nat) (Ytbadejabphdkiaa.K.dflt (tab (36 : TypeId)))).op.k == (3 : Int) && ((List.getD l (0 : Nat)
  (Ytbadejabphdkiaa.K.dflt (tab (36 : TypeId)))).ret == (0 : Int) && true)) (∃ (s0 : Bool × MapL × MapD), StepRel (List.getD l (0 : Nat) ansD) [] [] s0.fst s0.snd.fst
  s0.snd.snd ∧ (EqA (AVal.bool true) (AVal.bool s0.fst) ∧ True) ∧ ((True ∧ EqA (AVal.int IntKind.i64 s) (AVal.int IntKind.i64 s) ∧ True ∧ True ∧ True) ∧ EqR (Res.vec (4 :
  Nat) (List.replicate (Int.toNat (↑(List.length l) : Int)) (Ytbadejabphdkiaa.K.dflt (tab (4 : Nat))))) (Res.vec (4 : Nat) (List.replicate (Int.toNat (↑(List.length l) :
  Int)) (Ytbadejabphdkiaa.K.dflt (tab (4 : Nat))))) ∧ EqR (Res.mapS IntKind.u64 (28 : Nat) (setM [] (List.getD l (0 : Nat) (Ytbadejabphdkiaa.K.dflt (tab (36 : TypeId)))).t
  (List.getD l (0 : Nat) (Ytbadejabphdkiaa.K.dflt (tab (36 : TypeId)))).op.x)) (Res.mapS IntKind.u64 (28 : Nat) s0.snd.fst) ∧ EqR (Res.mapS IntKind.u64 (4 : Nat) [])
  (Res.mapS IntKind.u64 (4 : Nat) s0.snd.snd) ∧ True) ∧ True) (cnd ((List.getD l (0 : Nat) (Ytbadejabphdkiaa.K.dflt (tab (36 : TypeId)))).op.k == (3 : Int) && ((List.getD l
  (0 : Nat) (Ytbadejabphdkiaa.K.dflt (tab (36 : TypeId)))).ret == (5 : Int) && true)) (∃ (s0 : Bool × MapL × MapD), StepRel (List.getD l (0 : Nat) ansD) [] [] s0.fst
  s0.snd.fst s0.snd.snd ∧ (EqA (AVal.bool true) (AVal.bool s0.fst) ∧ True) ∧ ((True ∧ EqA (AVal.int IntKind.i64 s) (AVal.int IntKind.i64 s) ∧ True ∧ True ∧ True) ∧ EqR
  (Res.vec (4 : Nat) (List.replicate (Int.toNat (↑(List.length l) : Int)) (Ytbadejabphdkiaa.K.dflt (tab (4 : Nat))))) (Res.vec (4 : Nat) (List.replicate (Int.toNat
  (↑(List.length l) : Int)) (Ytbadejabphdkiaa.K.dflt (tab (4 : Nat))))) ∧ EqR (Res.mapS IntKind.u64 (28 : Nat) []) (Res.mapS IntKind.u64 (28 : Nat) s0.snd.fst) ∧ EqR
  (Res.mapS IntKind.u64 (4 : Nat) []) (Res.mapS IntKind.u64 (4 : Nat) s0.snd.snd) ∧ True) ∧ True) (cnd ((List.getD l (0 : Nat) (Ytbadejabphdkiaa.K.dflt (tab (36 :
  TypeId)))).op.k == (5 : Int) && ((List.getD l (0 : Nat) (Ytbadejabphdkiaa.K.dflt (tab (36 : TypeId)))).ret == (5 : Int) && true)) (∃ (s0 : Bool × MapL × MapD), StepRel
  (List.getD l (0 : Nat) ansD) [] [] s0.fst s0.snd.fst s0.snd.snd ∧ (EqA (AVal.bool true) (AVal.bool s0.fst) ∧ True) ∧ ((True ∧ EqA (AVal.int IntKind.i64 s) (AVal.int
  IntKind.i64 s) ∧ True ∧ True ∧ True) ∧ EqR (Res.vec (4 : Nat) (List.replicate (Int.toNat (↑(List.length l) : Int)) (Ytbadejabphdkiaa.K.dflt (tab (4 : Nat))))) (Res.vec (4
  : Nat) (List.replicate (Int.toNat (↑(List.length l) : Int)) (Ytbadejabphdkiaa.K.dflt (tab (4 : Nat))))) ∧ EqR (Res.mapS IntKind.u64 (28 : Nat) []) (Res.mapS IntKind.u64
  (28 : Nat) s0.snd.fst) ∧ EqR (Res.mapS IntKind.u64 (4 : Nat) []) (Res.mapS IntKind.u64 (4 : Nat) s0.snd.snd) ∧ True) ∧ True) (cnd ((List.getD l (0 : Nat)
  (Ytbadejabphdkiaa.K.dflt (tab (36 : TypeId)))).op.k == (5 : Int) && ((List.getD l (0 : Nat) (Ytbadejabphdkiaa.K.dflt (tab (36 : TypeId)))).ret == (0 : Int) && true)) (∃
  (s0 : Bool × MapL × MapD), StepRel (List.getD l (0 : Nat) ansD) [] [] s0.fst s0.snd.fst s0.snd.snd ∧ (EqA (AVal.bool false) (AVal.bool s0.fst) ∧ True) ∧ ((True ∧ EqA
  (AVal.int IntKind.i64 s) (AVal.int IntKind.i64 s) ∧ True ∧ True ∧ True) ∧ EqR (Res.vec (4 : Nat) (List.replicate (Int.toNat (↑(List.length l) : Int))
  (Ytbadejabphdkiaa.K.dflt (tab (4 : Nat))))) (Res.vec (4 : Nat) (List.replicate (Int.toNat (↑(List.length l) : Int)) (Ytbadejabphdkiaa.K.dflt (tab (4 : Nat))))) ∧ EqR
  (Res.mapS IntKind.u64 (28 : Nat) []) (Res.mapS IntKind.u64 (28 : Nat) s0.snd.fst) ∧ EqR (Res.mapS IntKind.u64 (4 : Nat) []) (Res.mapS IntKind.u64 (4 : Nat) s0.snd.snd) ∧
  True) ∧ True) (cnd ((List.getD l (0 : Nat) (Ytbadejabphdkiaa.K.dflt (tab (36 : TypeId)))).op.k == (6 : Int) && ((List.getD l (0 : Nat) (Ytbadejabphdkiaa.K.dflt (tab (36 :
  TypeId)))).ret == (0 : Int) && true)) (∃ (s0 : Bool × MapL × MapD), StepRel (List.getD l (0 : Nat) ansD) [] [] s0.fst s0.snd.fst s0.snd.snd ∧ (EqA (AVal.bool false)
  (AVal.bool s0.fst) ∧ True) ∧ ((True ∧ EqA (AVal.int IntKind.i64 s) (AVal.int IntKind.i64 s) ∧ True ∧ True ∧ True) ∧ EqR (Res.vec (4 : Nat) (List.replicate (Int.toNat
  (↑(List.length l) : Int)) (Ytbadejabphdkiaa.K.dflt (tab (4 : Nat))))) (Res.vec (4 : Nat) (List.replicate (Int.toNat (↑(List.length l) : Int)) (Ytbadejabphdkiaa.K.dflt
  (tab (4 : Nat))))) ∧ EqR (Res.mapS IntKind.u64 (28 : Nat) []) (Res.mapS IntKind.u64 (28 : Nat) s0.snd.fst) ∧ EqR (Res.mapS IntKind.u64 (4 : Nat) []) (Res.mapS IntKind.u64
  (4 : Nat) s0.snd.snd) ∧ True) ∧ True) (cnd ((List.getD l (0 : Nat) (Ytbadejabphdkiaa.K.dflt (tab (36 : TypeId)))).op.k == (4 : Int) && ((List.getD l (0 : Nat)
  (Ytbadejabphdkiaa.K.dflt (tab (36 : TypeId)))).ret == (0 : Int) && true)) (∃ (s0 : Bool × MapL × MapD), StepRel (List.getD l (0 : Nat) ansD) [] [] s0.fst s0.snd.fst
  s0.snd.snd ∧ (EqA (AVal.bool false) (AVal.bool s0.fst) ∧ True) ∧ ((True ∧ EqA (AVal.int IntKind.i64 s) (AVal.int IntKind.i64 s) ∧ True ∧ True ∧ True) ∧ EqR (Res.vec (4 :
  Nat) (List.replicate (Int.toNat (↑(List.length l) : Int)) (Ytbadejabphdkiaa.K.dflt (tab (4 : Nat))))) (Res.vec (4 : Nat) (List.replicate (Int.toNat (↑(List.length l) :
  Int)) (Ytbadejabphdkiaa.K.dflt (tab (4 : Nat))))) ∧ EqR (Res.mapS IntKind.u64 (28 : Nat) []) (Res.mapS IntKind.u64 (28 : Nat) s0.snd.fst) ∧ EqR (Res.mapS IntKind.u64 (4 :
  Nat) []) (Res.mapS IntKind.u64 (4 : Nat) s0.snd.snd) ∧ True) ∧ True) (cnd ((List.getD l (0 : Nat) (Ytbadejabphdkiaa.K.dflt (tab (36 : TypeId)))).op.k == List.getD [(4 :
  Int), (5 : Int), (6 : Int)] (0 : Nat) (0 : Int) && ((List.getD l (0 : Nat) (Ytbadejabphdkiaa.K.dflt (tab (36 : TypeId)))).ret == List.getD [(7 : Int), (8 : Int)] (0 :
  Nat) (0 : Int) && true)) (∃ (s0 : Bool × MapL × MapD), StepRel (List.getD l (0 : Nat) ansD) [] [] s0.fst s0.snd.fst s0.snd.snd ∧ (EqA (AVal.bool true) (AVal.bool s0.fst)
  ∧ True) ∧ ((True ∧ EqA (AVal.int IntKind.i64 s) (AVal.int IntKind.i64 s) ∧ True ∧ True ∧ True) ∧ EqR (Res.vec (4 : Nat) (List.replicate (Int.toNat (↑(List.length l) :
  Int)) (Ytbadejabphdkiaa.K.dflt (tab (4 : Nat))))) (Res.vec (4 : Nat) (List.replicate (Int.toNat (↑(List.length l) : Int)) (Ytbadejabphdkiaa.K.dflt (tab (4 : Nat))))) ∧
  EqR (Res.mapS IntKind.u64 (28 : Nat) []) (Res.mapS IntKind.u64 (28 : Nat) s0.snd.fst) ∧ EqR (Res.mapS IntKind.u64 (4 : Nat) []) (Res.mapS IntKind.u64 (4 : Nat)
  s0.snd.snd) ∧ True) ∧ True) (cnd ((List.getD l (0 : Nat) (Ytbadejabphdkiaa.K.dflt (tab (36 : TypeId)))).op.k == List.getD [(4 : Int), (5 : Int), (6 : Int)] (0 : Nat) (0 :
  Int) && ((List.getD l (0 : Nat) (Ytbadejabphdkiaa.K.dflt (tab (36 : TypeId)))).ret == List.getD [(7 : Int), (8 : Int)] (1 : Nat) (0 : Int) && true)) (∃ (s0 : Bool × MapL
  × MapD), StepRel (List.getD l (0 : Nat) ansD) [] [] s0.fst s0.snd.fst s0.snd.snd ∧ (EqA (AVal.bool true) (AVal.bool s0.fst) ∧ True) ∧ ((True ∧ EqA (AVal.int IntKind.i64
  s) (AVal.int IntKind.i64 s) ∧ True ∧ True ∧ True) ∧ EqR (Res.vec (4 : Nat) (List.replicate (Int.toNat (↑(List.length l) : Int)) (Ytbadejabphdkiaa.K.dflt (tab (4 :
  Nat))))) (Res.vec (4 : Nat) (List.replicate (Int.toNat (↑(List.length l) : Int)) (Ytbadejabphdkiaa.K.dflt (tab (4 : Nat))))) ∧ EqR (Res.mapS IntKind.u64 (28 : Nat) [])
  (Res.mapS IntKind.u64 (28 : Nat) s0.snd.fst) ∧ EqR (Res.mapS IntKind.u64 (4 : Nat) []) (Res.mapS IntKind.u64 (4 : Nat) s0.snd.snd) ∧ True) ∧ True) (cnd ((List.getD l (0 :
  Nat) (Ytbadejabphdkiaa.K.dflt (tab (36 : TypeId)))).op.k == List.getD [(4 : Int), (5 : Int), (6 : Int)] (0 : Nat) (0 : Int) && ((List.getD l (0 : Nat)
  (Ytbadejabphdkiaa.K.dflt (tab (36 : TypeId)))).ret == (6 : Int) && true)) (∃ (s0 : Bool × MapL × MapD), StepRel (List.getD l (0 : Nat) ansD) [] [] s0.fst s0.snd.fst
  s0.snd.snd ∧ (EqA (AVal.bool false) (AVal.bool s0.fst) ∧ True) ∧ ((True ∧ EqA (AVal.int IntKind.i64 s) (AVal.int IntKind.i64 s) ∧ True ∧ True ∧ True) ∧ EqR (Res.vec (4 :
  Nat) (List.replicate (Int.toNat (↑(List.length l) : Int)) (Ytbadejabphdkiaa.K.dflt (tab (4 : Nat))))) (Res.vec (4 : Nat) (List.replicate (Int.toNat (↑(List.length l) :
  Int)) (Ytbadejabphdkiaa.K.dflt (tab (4 : Nat))))) ∧ EqR (Res.mapS IntKind.u64 (28 : Nat) []) (Res.mapS IntKind.u64 (28 : Nat) s0.snd.fst) ∧ EqR (Res.mapS IntKind.u64 (4 :
  Nat) []) (Res.mapS IntKind.u64 (4 : Nat) s0.snd.snd) ∧ True) ∧ True) (cnd ((List.getD l (0 : Nat) (Ytbadejabphdkiaa.K.dflt (tab (36 : TypeId)))).op.k == List.getD [(4 :
  Int), (5 : Int), (6 : Int)] (1 : Nat) (0 : Int) && ((List.getD l (0 : Nat) (Ytbadejabphdkiaa.K.dflt (tab (36 : TypeId)))).ret == List.getD [(7 : Int), (8 : Int)] (0 :
  Nat) (0 : Int) && true)) (∃ (s0 : Bool × MapL × MapD), StepRel (List.getD l (0 : Nat) ansD) [] [] s0.fst s0.snd.fst s0.snd.snd ∧ (EqA (AVal.bool true) (AVal.bool s0.fst)
  ∧ True) ∧ ((True ∧ EqA (AVal.int IntKind.i64 s) (AVal.int IntKind.i64 s) ∧ True ∧ True ∧ True) ∧ EqR (Res.vec (4 : Nat) (List.replicate (Int.toNat (↑(List.length l) :
  Int)) (Ytbadejabphdkiaa.K.dflt (tab (4 : Nat))))) (Res.vec (4 : Nat) (List.replicate (Int.toNat (↑(List.length l) : Int)) (Ytbadejabphdkiaa.K.dflt (tab (4 : Nat))))) ∧
  EqR (Res.mapS IntKind.u64 (28 : Nat) []) (Res.mapS IntKind.u64 (28 : Nat) s0.snd.fst) ∧ EqR (Res.mapS IntKind.u64 (4 : Nat) []) (Res.mapS IntKind.u64 (4 : Nat)
  s0.snd.snd) ∧ True) ∧ True) (cnd ((List.getD l (0 : Nat) (Ytbadejabphdkiaa.K.dflt (tab (36 : TypeId)))).op.k == List.getD [(4 : Int), (5 : Int), (6 : Int)] (1 : Nat) (0 :
  Int) && ((List.getD l (0 : Nat) (Ytbadejabphdkiaa.K.dflt (tab (36 : TypeId)))).ret == List.getD [(7 : Int), (8 : Int)] (1 : Nat) (0 : Int) && true)) (∃ (s0 : Bool × MapL
  × MapD), StepRel (List.getD l (0 : Nat) ansD) [] [] s0.fst s0.snd.fst s0.snd.snd ∧ (EqA (AVal.bool true) (AVal.bool s0.fst) ∧ True) ∧ ((True ∧ EqA (AVal.int IntKind.i64
  s) (AVal.int IntKind.i64 s) ∧ True ∧ True ∧ True) ∧ EqR (Res.vec (4 : Nat) (List.replicate (Int.toNat (↑(List.length l) : Int)) (Ytbadejabphdkiaa.K.dflt (tab (4 :
  Nat))))) (Res.vec (4 : Nat) (List.replicate (Int.toNat (↑(List.length l) : Int)) (Ytbadejabphdkiaa.K.dflt (tab (4 : Nat))))) ∧ EqR (Res.mapS IntKind.u64 (28 : Nat) [])
  (Res.mapS IntKind.u64 (28 : Nat) s0.snd.fst) ∧ EqR (Res.mapS IntKind.u64 (4 : Nat) []) (Res.mapS IntKind.u64 (4 : Nat) s0.snd.snd) ∧ True) ∧ True) (cnd ((List.getD l (0 :
  Nat) (Ytbadejabphdkiaa.K.dflt (tab (36 : TypeId)))).op.k == List.getD [(4 : Int), (5 : Int), (6 : Int)] (1 : Nat) (0 : Int) && ((List.getD l (0 : Nat)
  (Ytbadejabphdkiaa.K.dflt (tab (36 : TypeId)))).ret == (6 : Int) && true)) (∃ (s0 : Bool × MapL × MapD), StepRel (List.getD l (0 : Nat) ansD) [] [] s0.fst s0.snd.fst
  s0.snd.snd ∧ (EqA (AVal.bool false) (AVal.bool s0.fst) ∧ True) ∧ ((True ∧ EqA (AVal.int IntKind.i64 s) (AVal.int IntKind.i64 s) ∧ True ∧ True ∧ True) ∧ EqR (Res.vec (4 :
  Nat) (List.replicate (Int.toNat (↑(List.length l) : Int)) (Ytbadejabphdkiaa.K.dflt (tab (4 : Nat))))) (Res.vec (4 : Nat) (List.replicate (Int.toNat (↑(List.length l) :
  Int)) (Ytbadejabphdkiaa.K.dflt (tab (4 : Nat))))) ∧ EqR (Res.mapS IntKind.u64 (28 : Nat) []) (Res.mapS IntKind.u64 (28 : Nat) s0.snd.fst) ∧ EqR (Res.mapS IntKind.u64 (4 :
  Nat) []) (Res.mapS IntKind.u64 (4 : Nat) s0.snd.snd) ∧ True) ∧ True) (cnd ((List.getD l (0 : Nat) (Ytbadejabphdkiaa.K.dflt (tab (36 : TypeId)))).op.k == List.getD [(4 :
  Int), (5 : Int), (6 : Int)] (2 : Nat) (0 : Int) && ((List.getD l (0 : Nat) (Ytbadejabphdkiaa.K.dflt (tab (36 : TypeId)))).ret == List.getD [(7 : Int), (8 : Int)] (0 :
  Nat) (0 : Int) && true)) (∃ (s0 : Bool × MapL × MapD), StepRel (List.getD l (0 : Nat) ansD) [] [] s0.fst s0.snd.fst s0.snd.snd ∧ (EqA (AVal.bool true) (AVal.bool s0.fst)
  ∧ True) ∧ ((True ∧ EqA (AVal.int IntKind.i64 s) (AVal.int IntKind.i64 s) ∧ True ∧ True ∧ True) ∧ EqR (Res.vec (4 : Nat) (List.replicate (Int.toNat (↑(List.length l) :
  Int)) (Ytbadejabphdkiaa.K.dflt (tab (4 : Nat))))) (Res.vec (4 : Nat) (List.replicate (Int.toNat (↑(List.length l) : Int)) (Ytbadejabphdkiaa.K.dflt (tab (4 : Nat))))) ∧
  EqR (Res.mapS IntKind.u64 (28 : Nat) []) (Res.mapS IntKind.u64 (28 : Nat) s0.snd.fst) ∧ EqR (Res.mapS IntKind.u64 (4 : Nat) []) (Res.mapS IntKind.u64 (4 : Nat)
  s0.snd.snd) ∧ True) ∧ True) (cnd ((List.getD l (0 : Nat) (Ytbadejabphdkiaa.K.dflt (tab (36 : TypeId)))).op.k == List.getD [(4 : Int), (5 : Int), (6 : Int)] (2 : Nat) (0 :
  Int) && ((List.getD l (0 : Nat) (Ytbadejabphdkiaa.K.dflt (tab (36 : TypeId)))).ret == List.getD [(7 : Int), (8 : Int)] (1 : Nat) (0 : Int) && true)) (∃ (s0 : Bool × MapL
  × MapD), StepRel (List.getD l (0 : Nat) ansD) [] [] s0.fst s0.snd.fst s0.snd.snd ∧ (EqA (AVal.bool true) (AVal.bool s0.fst) ∧ True) ∧ ((True ∧ EqA (AVal.int IntKind.i64
  s) (AVal.int IntKind.i64 s) ∧ True ∧ True ∧ True) ∧ EqR (Res.vec (4 : Nat) (List.replicate (Int.toNat (↑(List.length l) : Int)) (Ytbadejabphdkiaa.K.dflt (tab (4 :
  Nat))))) (Res.vec (4 : Nat) (List.replicate (Int.toNat (↑(List.length l) : Int)) (Ytbadejabphdkiaa.K.dflt (tab (4 : Nat))))) ∧ EqR (Res.mapS IntKind.u64 (28 : Nat) [])
  (Res.mapS IntKind.u64 (28 : Nat) s0.snd.fst) ∧ EqR (Res.mapS IntKind.u64 (4 : Nat) []) (Res.mapS IntKind.u64 (4 : Nat) s0.snd.snd) ∧ True) ∧ True) (∃ (s0 : Bool × MapL ×
  MapD), StepRel (List.getD l (0 : Nat) ansD) [] [] s0.fst s0.snd.fst s0.snd.snd ∧ (EqA (AVal.bool false) (AVal.bool s0.fst) ∧ True) ∧ ((True ∧ EqA (AVal.int IntKind.i64 s)
  (AVal.int IntKind.i64 s) ∧ True ∧ True ∧ True) ∧ EqR (Res.vec (4 : Nat) (List.replicate (Int.toNat (↑(List.length l) : Int)) (Ytbadejabphdkiaa.K.dflt (tab (4 : Nat)))))
  (Res.vec (4 : Nat) (List.replicate (Int.toNat (↑(List.length l) : Int)) (Ytbadejabphdkiaa.K.dflt (tab (4 : Nat))))) ∧ EqR (Res.mapS IntKind.u64 (28 : Nat) []) (Res.mapS
  IntKind.u64 (28 : Nat) s0.snd.fst) ∧ EqR (Res.mapS IntKind.u64 (4 : Nat) []) (Res.mapS IntKind.u64 (4 : Nat) s0.snd.snd) ∧ True) ∧ True)))))))))))))))))))) ∧ ∀ (s_2 :
  Bool × MapL × MapD), StepRel (List.getD l (0 : Nat) ansD) [] [] s_2.fst s_2.snd.fst s_2.snd.snd → ((0 : Int) ≤ (0 : Int) ∧ (0 : Int) < (↑(List.length l) : Int)) ∧ cnd
  (hasM s_2.snd.fst (List.getD l (0 : Nat) (Ytbadejabphdkiaa.K.dflt (tab (36 : TypeId)))).t == true) (((0 : Int) ≤ (0 : Int) ∧ (0 : Int) < (↑(List.length l) : Int)) ∧ cnd
  (((List.getD l (0 : Nat) (Ytbadejabphdkiaa.K.dflt (tab (36 : TypeId)))).op.k != (3 : Int)) == false) (cnd ((!s_2.fst) == true) (cnd (!false == hasM s_2.snd.fst (List.getD
  l (0 : Nat) (Ytbadejabphdkiaa.K.dflt (tab (36 : TypeId)))).t) (K (AVal.bool false)) (∃ (s0 : Unit), True ∧ True ∧ (EqR (Res.cells (44 : Nat) [AVal.int IntKind.i64 s,
  AVal.mapr (2 : Nat), AVal.mapr (3 : Nat)]) (Res.cells (44 : Nat) [AVal.int IntKind.i64 s, AVal.mapr (2 : Nat), AVal.mapr (3 : Nat)]) ∧ EqR (Res.vec (4 : Nat)
  (List.replicate (Int.toNat (↑(List.length l) : Int)) (Ytbadejabphdkiaa.K.dflt (tab (4 : Nat))))) (Res.vec (4 : Nat) (List.replicate (Int.toNat (↑(List.length l) : Int))
  (Ytbadejabphdkiaa.K.dflt (tab (4 : Nat))))) ∧ EqR (Res.mapS IntKind.u64 (28 : Nat) s_2.snd.fst) (Res.mapS IntKind.u64 (28 : Nat) s_2.snd.fst) ∧ EqR (Res.mapS IntKind.u64
  (4 : Nat) s_2.snd.snd) (Res.mapS IntKind.u64 (4 : Nat) s_2.snd.snd) ∧ True) ∧ True)) (∃ (s0 : Unit), True ∧ True ∧ (EqR (Res.cells (44 : Nat) [AVal.int IntKind.i64 s,
  AVal.mapr (2 : Nat), AVal.mapr (3 : Nat)]) (Res.cells (44 : Nat) [AVal.int IntKind.i64 s, AVal.mapr (2 : Nat), AVal.mapr (3 : Nat)]) ∧ EqR (Res.vec (4 : Nat)
  (List.replicate (Int.toNat (↑(List.length l) : Int)) (Ytbadejabphdkiaa.K.dflt (tab (4 : Nat))))) (Res.vec (4 : Nat) (List.replicate (Int.toNat (↑(List.length l) : Int))
  (Ytbadejabphdkiaa.K.dflt (tab (4 : Nat))))) ∧ EqR (Res.mapS IntKind.u64 (28 : Nat) s_2.snd.fst) (Res.mapS IntKind.u64 (28 : Nat) s_2.snd.fst) ∧ EqR (Res.mapS IntKind.u64
  (4 : Nat) s_2.snd.snd) (Res.mapS IntKind.u64 (4 : Nat) s_2.snd.snd) ∧ True) ∧ True)) (K (AVal.bool false))) (cnd ((!s_2.fst) == true) (cnd (!false == hasM s_2.snd.fst
  (List.getD l (0 : Nat) (Ytbadejabphdkiaa.K.dflt (tab (36 : TypeId)))).t) (K (AVal.bool false)) (∃ (s0 : Unit), True ∧ True ∧ (EqR (Res.cells (44 : Nat) [AVal.int
  IntKind.i64 s, AVal.mapr (2 : Nat), AVal.mapr (3 : Nat)]) (Res.cells (44 : Nat) [AVal.int IntKind.i64 s, AVal.mapr (2 : Nat), AVal.mapr (3 : Nat)]) ∧ EqR (Res.vec (4 :
  Nat) (List.replicate (Int.toNat (↑(List.length l) : Int)) (Ytbadejabphdkiaa.K.dflt (tab (4 : Nat))))) (Res.vec (4 : Nat) (List.replicate (Int.toNat (↑(List.length l) :
  Int)) (Ytbadejabphdkiaa.K.dflt (tab (4 : Nat))))) ∧ EqR (Res.mapS IntKind.u64 (28 : Nat) s_2.snd.fst) (Res.mapS IntKind.u64 (28 : Nat) s_2.snd.fst) ∧ EqR (Res.mapS
  IntKind.u64 (4 : Nat) s_2.snd.snd) (Res.mapS IntKind.u64 (4 : Nat) s_2.snd.snd) ∧ True) ∧ True)) (∃ (s0 : Unit), True ∧ True ∧ (EqR (Res.cells (44 : Nat) [AVal.int
  IntKind.i64 s, AVal.mapr (2 : Nat), AVal.mapr (3 : Nat)]) (Res.cells (44 : Nat) [AVal.int IntKind.i64 s, AVal.mapr (2 : Nat), AVal.mapr (3 : Nat)]) ∧ EqR (Res.vec (4 :
  Nat) (List.replicate (Int.toNat (↑(List.length l) : Int)) (Ytbadejabphdkiaa.K.dflt (tab (4 : Nat))))) (Res.vec (4 : Nat) (List.replicate (Int.toNat (↑(List.length l) :
  Int)) (Ytbadejabphdkiaa.K.dflt (tab (4 : Nat))))) ∧ EqR (Res.mapS IntKind.u64 (28 : Nat) s_2.snd.fst) (Res.mapS IntKind.u64 (28 : Nat) s_2.snd.fst) ∧ EqR (Res.mapS
  IntKind.u64 (4 : Nat) s_2.snd.snd) (Res.mapS IntKind.u64 (4 : Nat) s_2.snd.snd) ∧ True) ∧ True)) ∧ ∀ (s_3 : Unit), True → ((0 : Int) ≤ (0 : Int) ∧ (0 : Int) <
  (↑(List.length (List.replicate (Int.toNat (↑(List.length l) : Int)) (Ytbadejabphdkiaa.K.dflt (tab (4 : Nat))))) : Int)) ∧ (0 : Nat) < List.length (List.replicate
  (Int.toNat (↑(List.length l) : Int)) (Ytbadejabphdkiaa.K.dflt (tab (4 : Nat)))) ∧ (∃ (s0 : Nat), s0 ≤ (0 : Nat) + (1 : Nat) ∧ (EqA (AVal.int IntKind.i64 (0 : Int))
  (AVal.int IntKind.i64 (↑s0 : Int)) ∧ True) ∧ (EqR (Res.cells (44 : Nat) [AVal.int IntKind.i64 s, AVal.mapr (2 : Nat), AVal.mapr (3 : Nat)]) (Res.cells (44 : Nat)
  [AVal.int IntKind.i64 s, AVal.mapr (2 : Nat), AVal.mapr (3 : Nat)]) ∧ EqR (Res.vec (4 : Nat) (List.set (List.replicate (Int.toNat (↑(List.length l) : Int))
  (Ytbadejabphdkiaa.K.dflt (tab (4 : Nat)))) (0 : Nat) false)) (Res.vec (4 : Nat) (List.set (List.replicate (Int.toNat (↑(List.length l) : Int)) (Ytbadejabphdkiaa.K.dflt
  (tab (4 : Nat)))) (0 : Nat) false)) ∧ EqR (Res.mapS IntKind.u64 (28 : Nat) s_2.snd.fst) (Res.mapS IntKind.u64 (28 : Nat) s_2.snd.fst) ∧ EqR (Res.mapS IntKind.u64 (4 :
  Nat) s_2.snd.snd) (Res.mapS IntKind.u64 (4 : Nat) s_2.snd.snd) ∧ True) ∧ True) ∧ ∀ (s_4 : Nat), s_4 ≤ (0 : Nat) + (1 : Nat) → cnd (decide ((↑s_4 : Int) ≤ (0 : Int))) (((0
  : Int) ≤ (↑s_4 : Int) ∧ (↑s_4 : Int) < (↑(List.length (List.set (List.replicate (Int.toNat (↑(List.length l) : Int)) (Ytbadejabphdkiaa.K.dflt (tab (4 : Nat)))) (0 : Nat)
  false)) : Int)) ∧ Int.toNat (↑s_4 : Int) < List.length (List.set (List.replicate (Int.toNat (↑(List.length l) : Int)) (Ytbadejabphdkiaa.K.dflt (tab (4 : Nat)))) (0 : Nat)
  false) ∧ cnd (List.getD (List.set (List.replicate (Int.toNat (↑(List.length l) : Int)) (Ytbadejabphdkiaa.K.dflt (tab (4 : Nat)))) (0 : Nat) false) (Int.toNat (↑s_4 :
  Int)) (Ytbadejabphdkiaa.K.dflt (tab (4 : Nat)))) (((0 : Int) ≤ (↑s_4 : Int) ∧ (↑s_4 : Int) < (↑(List.length l) : Int)) ∧ cnd (hasM s_2.snd.fst (List.getD l (Int.toNat
  (↑s_4 : Int)) (Ytbadejabphdkiaa.K.dflt (tab (36 : TypeId)))).t) (K (AVal.bool false)) (∃ (s' : Nat), s' ≤ (0 : Nat) + (1 : Nat) ∧ (0 : Nat) + (1 : Nat) - s' < (0 : Nat) +
  (1 : Nat) - s_4 ∧ (EqA (AVal.int IntKind.i64 (IntKind.wrap IntKind.i64 ((↑s_4 : Int) + (1 : Int)))) (AVal.int IntKind.i64 (↑s' : Int)) ∧ True) ∧ (EqR (Res.cells (44 :
  Nat) [AVal.int IntKind.i64 s, AVal.mapr (2 : Nat), AVal.mapr (3 : Nat)]) (Res.cells (44 : Nat) [AVal.int IntKind.i64 s, AVal.mapr (2 : Nat), AVal.mapr (3 : Nat)]) ∧ EqR
  (Res.vec (4 : Nat) (List.set (List.replicate (Int.toNat (↑(List.length l) : Int)) (Ytbadejabphdkiaa.K.dflt (tab (4 : Nat)))) (0 : Nat) false)) (Res.vec (4 : Nat)
  (List.set (List.replicate (Int.toNat (↑(List.length l) : Int)) (Ytbadejabphdkiaa.K.dflt (tab (4 : Nat)))) (0 : Nat) false)) ∧ EqR (Res.mapS IntKind.u64 (28 : Nat)
  s_2.snd.fst) (Res.mapS IntKind.u64 (28 : Nat) s_2.snd.fst) ∧ EqR (Res.mapS IntKind.u64 (4 : Nat) s_2.snd.snd) (Res.mapS IntKind.u64 (4 : Nat) s_2.snd.snd) ∧ True) ∧
  True)) (∃ (s' : Nat), s' ≤ (0 : Nat) + (1 : Nat) ∧ (0 : Nat) + (1 : Nat) - s' < (0 : Nat) + (1 : Nat) - s_4 ∧ (EqA (AVal.int IntKind.i64 (IntKind.wrap IntKind.i64 ((↑s_4
  : Int) + (1 : Int)))) (AVal.int IntKind.i64 (↑s' : Int)) ∧ True) ∧ (EqR (Res.cells (44 : Nat) [AVal.int IntKind.i64 s, AVal.mapr (2 : Nat), AVal.mapr (3 : Nat)])
  (Res.cells (44 : Nat) [AVal.int IntKind.i64 s, AVal.mapr (2 : Nat), AVal.mapr (3 : Nat)]) ∧ EqR (Res.vec (4 : Nat) (List.set (List.replicate (Int.toNat (↑(List.length l)
  : Int)) (Ytbadejabphdkiaa.K.dflt (tab (4 : Nat)))) (0 : Nat) false)) (Res.vec (4 : Nat) (List.set (List.replicate (Int.toNat (↑(List.length l) : Int))
  (Ytbadejabphdkiaa.K.dflt (tab (4 : Nat)))) (0 : Nat) false)) ∧ EqR (Res.mapS IntKind.u64 (28 : Nat) s_2.snd.fst) (Res.mapS IntKind.u64 (28 : Nat) s_2.snd.fst) ∧ EqR
  (Res.mapS IntKind.u64 (4 : Nat) s_2.snd.snd) (Res.mapS IntKind.u64 (4 : Nat) s_2.snd.snd) ∧ True) ∧ True)) ((∃ (s0 : Nat × MapL × MapD × List Bool), DeadInv l s0.fst
  s0.snd.fst s0.snd.snd.fst s0.snd.snd.snd ∧ (EqA (AVal.int IntKind.i64 (1 : Int)) (AVal.int IntKind.i64 (↑s0.fst : Int)) ∧ True) ∧ (EqR (Res.cells (44 : Nat) [AVal.int
  IntKind.i64 s, AVal.mapr (2 : Nat), AVal.mapr (3 : Nat)]) (Res.cells (44 : Nat) [AVal.int IntKind.i64 s, AVal.mapr (2 : Nat), AVal.mapr (3 : Nat)]) ∧ EqR (Res.vec (4 :
  Nat) (List.set (List.replicate (Int.toNat (↑(List.length l) : Int)) (Ytbadejabphdkiaa.K.dflt (tab (4 : Nat)))) (0 : Nat) false)) (Res.vec (4 : Nat) s0.snd.snd.snd) ∧ EqR
  (Res.mapS IntKind.u64 (28 : Nat) s_2.snd.fst) (Res.mapS IntKind.u64 (28 : Nat) s0.snd.fst) ∧ EqR (Res.mapS IntKind.u64 (4 : Nat) s_2.snd.snd) (Res.mapS IntKind.u64 (4 :
  Nat) s0.snd.snd.fst) ∧ True) ∧ True) ∧ ∀ (s_5 : Nat × MapL × MapD × List Bool), DeadInv l s_5.fst s_5.snd.fst s_5.snd.snd.fst s_5.snd.snd.snd → cnd (decide ((↑s_5.fst :
  Int) < (↑(List.length l) : Int))) (((0 : Int) ≤ (↑s_5.fst : Int) ∧ (↑s_5.fst : Int) < (↑(List.length l) : Int)) ∧ (((0 : Int) ≤ (↑s_5.fst : Int) ∧ (↑s_5.fst : Int) <
  (↑(List.length l) : Int)) ∧ cnd (hasM s_5.snd.fst (List.getD l (Int.toNat (↑s_5.fst : Int)) (Ytbadejabphdkiaa.K.dflt (tab (36 : TypeId)))).t == false) (∃ (s0 : Unit),
  True ∧ (EqA (AVal.bool (getM s_5.snd.snd.fst (List.getD l (Int.toNat (↑s_5.fst : Int)) (Ytbadejabphdkiaa.K.dflt (tab (36 : TypeId)))).t (Ytbadejabphdkiaa.K.dflt (tab (4 :
  TypeId))))) (AVal.bool (toldM s_5.snd.fst s_5.snd.snd.fst (List.getD l (Int.toNat (↑s_5.fst : Int)) ansD).t)) ∧ True) ∧ (EqR (Res.cells (44 : Nat) [AVal.int IntKind.i64
  s, AVal.mapr (2 : Nat), AVal.mapr (3 : Nat)]) (Res.cells (44 : Nat) [AVal.int IntKind.i64 s, AVal.mapr (2 : Nat), AVal.mapr (3 : Nat)]) ∧ EqR (Res.vec (4 : Nat)
  s_5.snd.snd.snd) (Res.vec (4 : Nat) s_5.snd.snd.snd) ∧ EqR (Res.mapS IntKind.u64 (28 : Nat) s_5.snd.fst) (Res.mapS IntKind.u64 (28 : Nat) s_5.snd.fst) ∧ EqR (Res.mapS
  IntKind.u64 (4 : Nat) s_5.snd.snd.fst) (Res.mapS IntKind.u64 (4 : Nat) s_5.snd.snd.fst) ∧ True) ∧ True) (∃ (s0 : Unit), True ∧ (EqA (AVal.bool true) (AVal.bool (toldM
  s_5.snd.fst s_5.snd.snd.fst (List.getD l (Int.toNat (↑s_5.fst : Int)) ansD).t)) ∧ True) ∧ (EqR (Res.cells (44 : Nat) [AVal.int IntKind.i64 s, AVal.mapr (2 : Nat),
  AVal.mapr (3 : Nat)]) (Res.cells (44 : Nat) [AVal.int IntKind.i64 s, AVal.mapr (2 : Nat), AVal.mapr (3 : Nat)]) ∧ EqR (Res.vec (4 : Nat) s_5.snd.snd.snd) (Res.vec (4 :
  Nat) s_5.snd.snd.snd) ∧ EqR (Res.mapS IntKind.u64 (28 : Nat) s_5.snd.fst) (Res.mapS IntKind.u64 (28 : Nat) s_5.snd.fst) ∧ EqR (Res.mapS IntKind.u64 (4 : Nat)
  s_5.snd.snd.fst) (Res.mapS IntKind.u64 (4 : Nat) s_5.snd.snd.fst) ∧ True) ∧ True)) ∧ ∀ (s_6 : Unit), True → (((0 : Int) ≤ (↑s_5.fst : Int) ∧ (↑s_5.fst : Int) <
  (↑(List.length l) : Int)) ∧ cnd ((List.getD l (Int.toNat (↑s_5.fst : Int)) (Ytbadejabphdkiaa.K.dflt (tab (36 : TypeId)))).op.k == (1 : Int)) (∃ (s0 : Bool × MapL × MapD),
  StepRel (List.getD l (Int.toNat (↑s_5.fst : Int)) ansD) s_5.snd.fst s_5.snd.snd.fst s0.fst s0.snd.fst s0.snd.snd ∧ (EqA (AVal.bool true) (AVal.bool s0.fst) ∧ True) ∧ (EqR
  (Res.cells (44 : Nat) [AVal.int IntKind.i64 s, AVal.mapr (2 : Nat), AVal.mapr (3 : Nat)]) (Res.cells (44 : Nat) [AVal.int IntKind.i64 s, AVal.mapr (2 : Nat), AVal.mapr (3
  : Nat)]) ∧ EqR (Res.vec (4 : Nat) s_5.snd.snd.snd) (Res.vec (4 : Nat) s_5.snd.snd.snd) ∧ EqR (Res.mapS IntKind.u64 (28 : Nat) s_5.snd.fst) (Res.mapS IntKind.u64 (28 :
  Nat) s0.snd.fst) ∧ EqR (Res.mapS IntKind.u64 (4 : Nat) s_5.snd.snd.fst) (Res.mapS IntKind.u64 (4 : Nat) s0.snd.snd) ∧ True) ∧ True) (cnd ((List.getD l (Int.toNat
  (↑s_5.fst : Int)) (Ytbadejabphdkiaa.K.dflt (tab (36 : TypeId)))).op.k == (2 : Int)) (∃ (s0 : Bool × MapL × MapD), StepRel (List.getD l (Int.toNat (↑s_5.fst : Int)) ansD)
  s_5.snd.fst s_5.snd.snd.fst s0.fst s0.snd.fst s0.snd.snd ∧ (EqA (AVal.bool true) (AVal.bool s0.fst) ∧ True) ∧ (EqR (Res.cells (44 : Nat) [AVal.int IntKind.i64 s,
  AVal.mapr (2 : Nat), AVal.mapr (3 : Nat)]) (Res.cells (44 : Nat) [AVal.int IntKind.i64 s, AVal.mapr (2 : Nat), AVal.mapr (3 : Nat)]) ∧ EqR (Res.vec (4 : Nat)
  s_5.snd.snd.snd) (Res.vec (4 : Nat) s_5.snd.snd.snd) ∧ EqR (Res.mapS IntKind.u64 (28 : Nat) s_5.snd.fst) (Res.mapS IntKind.u64 (28 : Nat) s0.snd.fst) ∧ EqR (Res.mapS
  IntKind.u64 (4 : Nat) s_5.snd.snd.fst) (Res.mapS IntKind.u64 (4 : Nat) s0.snd.snd) ∧ True) ∧ True) (cnd ((List.getD l (Int.toNat (↑s_5.fst : Int))
  (Ytbadejabphdkiaa.K.dflt (tab (36 : TypeId)))).op.k == (7 : Int)) (∃ (s0 : Bool × MapL × MapD), StepRel (List.getD l (Int.toNat (↑s_5.fst : Int)) ansD) s_5.snd.fst
  s_5.snd.snd.fst s0.fst s0.snd.fst s0.snd.snd ∧ (EqA (AVal.bool true) (AVal.bool s0.fst) ∧ True) ∧ (EqR (Res.cells (44 : Nat) [AVal.int IntKind.i64 s, AVal.mapr (2 : Nat),
  AVal.mapr (3 : Nat)]) (Res.cells (44 : Nat) [AVal.int IntKind.i64 s, AVal.mapr (2 : Nat), AVal.mapr (3 : Nat)]) ∧ EqR (Res.vec (4 : Nat) s_5.snd.snd.snd) (Res.vec (4 :
  Nat) s_5.snd.snd.snd) ∧ EqR (Res.mapS IntKind.u64 (28 : Nat) s_5.snd.fst) (Res.mapS IntKind.u64 (28 : Nat) s0.snd.fst) ∧ EqR (Res.mapS IntKind.u64 (4 : Nat)
  s_5.snd.snd.fst) (Res.mapS IntKind.u64 (4 : Nat) s0.snd.snd) ∧ True) ∧ True) (cnd ((List.getD l (Int.toNat (↑s_5.fst : Int)) (Ytbadejabphdkiaa.K.dflt (tab (36 :
  TypeId)))).op.k == (8 : Int)) (∃ (s0 : Bool × MapL × MapD), StepRel (List.getD l (Int.toNat (↑s_5.fst : Int)) ansD) s_5.snd.fst s_5.snd.snd.fst s0.fst s0.snd.fst
  s0.snd.snd ∧ (EqA (AVal.bool true) (AVal.bool s0.fst) ∧ True) ∧ (EqR (Res.cells (44 : Nat) [AVal.int IntKind.i64 s, AVal.mapr (2 : Nat), AVal.mapr (3 : Nat)]) (Res.cells
  (44 : Nat) [AVal.int IntKind.i64 s, AVal.mapr (2 : Nat), AVal.mapr (3 : Nat)]) ∧ EqR (Res.vec (4 : Nat) s_5.snd.snd.snd) (Res.vec (4 : Nat) s_5.snd.snd.snd) ∧ EqR
  (Res.mapS IntKind.u64 (28 : Nat) s_5.snd.fst) (Res.mapS IntKind.u64 (28 : Nat) s0.snd.fst) ∧ EqR (Res.mapS IntKind.u64 (4 : Nat) s_5.snd.snd.fst) (Res.mapS IntKind.u64 (4
  : Nat) s0.snd.snd) ∧ True) ∧ True) (cnd ((List.getD l (Int.toNat (↑s_5.fst : Int)) (Ytbadejabphdkiaa.K.dflt (tab (36 : TypeId)))).op.k == (9 : Int)) (∃ (s0 : Bool × MapL
  × MapD), StepRel (List.getD l (Int.toNat (↑s_5.fst : Int)) ansD) s_5.snd.fst s_5.snd.snd.fst s0.fst s0.snd.fst s0.snd.snd ∧ (EqA (AVal.bool true) (AVal.bool s0.fst) ∧
  True) ∧ (EqR (Res.cells (44 : Nat) [AVal.int IntKind.i64 s, AVal.mapr (2 : Nat), AVal.mapr (3 : Nat)]) (Res.cells (44 : Nat) [AVal.int IntKind.i64 s, AVal.mapr (2 : Nat),
  AVal.mapr (3 : Nat)]) ∧ EqR (Res.vec (4 : Nat) s_5.snd.snd.snd) (Res.vec (4 : Nat) s_5.snd.snd.snd) ∧ EqR (Res.mapS IntKind.u64 (28 : Nat) s_5.snd.fst) (Res.mapS
  IntKind.u64 (28 : Nat) s0.snd.fst) ∧ EqR (Res.mapS IntKind.u64 (4 : Nat) s_5.snd.snd.fst) (Res.mapS IntKind.u64 (4 : Nat) s0.snd.snd) ∧ True) ∧ True) (((0 : Int) ≤ (0 :
  Int) ∧ (0 : Int) < (↑(3 : Nat) : Int)) ∧ (0 : Nat) < (3 : Nat) ∧ ((0 : Int) ≤ (0 : Int) ∧ (0 : Int) < (↑(2 : Nat) : Int)) ∧ (0 : Nat) < (2 : Nat) ∧ ((0 : Int) ≤ (1 : Int)
  ∧ (1 : Int) < (↑(2 : Nat) : Int)) ∧ (1 : Nat) < (2 : Nat) ∧ ((0 : Int) ≤ (1 : Int) ∧ (1 : Int) < (↑(3 : Nat) : Int)) ∧ (1 : Nat) < (3 : Nat) ∧ ((0 : Int) ≤ (0 : Int) ∧ (0
  : Int) < (↑(2 : Nat) : Int)) ∧ (0 : Nat) < (2 : Nat) ∧ ((0 : Int) ≤ (1 : Int) ∧ (1 : Int) < (↑(2 : Nat) : Int)) ∧ (1 : Nat) < (2 : Nat) ∧ ((0 : Int) ≤ (2 : Int) ∧ (2 :
  Int) < (↑(3 : Nat) : Int)) ∧ (2 : Nat) < (3 : Nat) ∧ ((0 : Int) ≤ (0 : Int) ∧ (0 : Int) < (↑(2 : Nat) : Int)) ∧ (0 : Nat) < (2 : Nat) ∧ ((0 : Int) ≤ (1 : Int) ∧ (1 : Int)
  < (↑(2 : Nat) : Int)) ∧ (1 : Nat) < (2 : Nat) ∧ ((0 : Int) ≤ (0 : Int) ∧ (0 : Int) < (↑(3 : Nat) : Int)) ∧ (0 : Nat) < (3 : Nat) ∧ ((0 : Int) ≤ (0 : Int) ∧ (0 : Int) <
  (↑(2 : Nat) : Int)) ∧ (0 : Nat) < (2 : Nat) ∧ ((0 : Int) ≤ (1 : Int) ∧ (1 : Int) < (↑(2 : Nat) : Int)) ∧ (1 : Nat) < (2 : Nat) ∧ ((0 : Int) ≤ (1 : Int) ∧ (1 : Int) < (↑(3
  : Nat) : Int)) ∧ (1 : Nat) < (3 : Nat) ∧ ((0 : Int) ≤ (0 : Int) ∧ (0 : Int) < (↑(2 : Nat) : Int)) ∧ (0 : Nat) < (2 : Nat) ∧ ((0 : Int) ≤ (1 : Int) ∧ (1 : Int) < (↑(2 :
  Nat) : Int)) ∧ (1 : Nat) < (2 : Nat) ∧ ((0 : Int) ≤ (2 : Int) ∧ (2 : Int) < (↑(3 : Nat) : Int)) ∧ (2 : Nat) < (3 : Nat) ∧ ((0 : Int) ≤ (0 : Int) ∧ (0 : Int) < (↑(2 : Nat)
  : Int)) ∧ (0 : Nat) < (2 : Nat) ∧ ((0 : Int) ≤ (1 : Int) ∧ (1 : Int) < (↑(2 : Nat) : Int)) ∧ (1 : Nat) < (2 : Nat) ∧ cnd ((List.getD l (Int.toNat (↑s_5.fst : Int))
  (Ytbadejabphdkiaa.K.dflt (tab (36 : TypeId)))).op.k == (3 : Int) && ((List.getD l (Int.toNat (↑s_5.fst : Int)) (Ytbadejabphdkiaa.K.dflt (tab (36 : TypeId)))).ret == (0 :
  Int) && true)) (cnd (hasM s_5.snd.fst (List.getD l (Int.toNat (↑s_5.fst : Int)) (Ytbadejabphdkiaa.K.dflt (tab (36 : TypeId)))).t == false) (cnd (!!getM s_5.snd.snd.fst
  (List.getD l (Int.toNat (↑s_5.fst : Int)) (Ytbadejabphdkiaa.K.dflt (tab (36 : TypeId)))).t (Ytbadejabphdkiaa.K.dflt (tab (4 : TypeId)))) (∃ (s0 : Bool × MapL × MapD),
  StepRel (List.getD l (Int.toNat (↑s_5.fst : Int)) ansD) s_5.snd.fst s_5.snd.snd.fst s0.fst s0.snd.fst s0.snd.snd ∧ (EqA (AVal.bool false) (AVal.bool s0.fst) ∧ True) ∧
  (EqR (Res.cells (44 : Nat) [AVal.int IntKind.i64 s, AVal.mapr (2 : Nat), AVal.mapr (3 : Nat)]) (Res.cells (44 : Nat) [AVal.int IntKind.i64 s, AVal.mapr (2 : Nat),
  AVal.mapr (3 : Nat)]) ∧ EqR (Res.vec (4 : Nat) s_5.snd.snd.snd) (Res.vec (4 : Nat) s_5.snd.snd.snd) ∧ EqR (Res.mapS IntKind.u64 (28 : Nat) s_5.snd.fst) (Res.mapS
  IntKind.u64 (28 : Nat) s0.snd.fst) ∧ EqR (Res.mapS IntKind.u64 (4 : Nat) s_5.snd.snd.fst) (Res.mapS IntKind.u64 (4 : Nat) s0.snd.snd) ∧ True) ∧ True) (∃ (s0 : Bool × MapL
  × MapD), StepRel (List.getD l (Int.toNat (↑s_5.fst : Int)) ansD) s_5.snd.fst s_5.snd.snd.fst s0.fst s0.snd.fst s0.snd.snd ∧ (EqA (AVal.bool true) (AVal.bool s0.fst) ∧
  True) ∧ (EqR (Res.cells (44 : Nat) [AVal.int IntKind.i64 s, AVal.mapr (2 : Nat), AVal.mapr (3 : Nat)]) (Res.cells (44 : Nat) [AVal.int IntKind.i64 s, AVal.mapr (2 : Nat),
  AVal.mapr (3 : Nat)]) ∧ EqR (Res.vec (4 : Nat) s_5.snd.snd.snd) (Res.vec (4 : Nat) s_5.snd.snd.snd) ∧ EqR (Res.mapS IntKind.u64 (28 : Nat) (setM s_5.snd.fst (List.getD l
  (Int.toNat (↑s_5.fst : Int)) (Ytbadejabphdkiaa.K.dflt (tab (36 : TypeId)))).t (List.getD l (Int.toNat (↑s_5.fst : Int)) (Ytbadejabphdkiaa.K.dflt (tab (36 :
  TypeId)))).op.x)) (Res.mapS IntKind.u64 (28 : Nat) s0.snd.fst) ∧ EqR (Res.mapS IntKind.u64 (4 : Nat) s_5.snd.snd.fst) (Res.mapS IntKind.u64 (4 : Nat) s0.snd.snd) ∧ True)
  ∧ True)) (∃ (s0 : Bool × MapL × MapD), StepRel (List.getD l (Int.toNat (↑s_5.fst : Int)) ansD) s_5.snd.fst s_5.snd.snd.fst s0.fst s0.snd.fst s0.snd.snd ∧ (EqA (AVal.bool
  false) (AVal.bool s0.fst) ∧ True) ∧ (EqR (Res.cells (44 : Nat) [AVal.int IntKind.i64 s, AVal.mapr (2 : Nat), AVal.mapr (3 : Nat)]) (Res.cells (44 : Nat) [AVal.int
  IntKind.i64 s, AVal.mapr (2 : Nat), AVal.mapr (3 : Nat)]) ∧ EqR (Res.vec (4 : Nat) s_5.snd.snd.snd) (Res.vec (4 : Nat) s_5.snd.snd.snd) ∧ EqR (Res.mapS IntKind.u64 (28 :
  Nat) s_5.snd.fst) (Res.mapS IntKind.u64 (28 : Nat) s0.snd.fst) ∧ EqR (Res.mapS IntKind.u64 (4 : Nat) s_5.snd.snd.fst) (Res.mapS IntKind.u64 (4 : Nat) s0.snd.snd) ∧ True)
  ∧ True)) (cnd ((List.getD l (Int.toNat (↑s_5.fst : Int)) (Ytbadejabphdkiaa.K.dflt (tab (36 : TypeId)))).op.k == (3 : Int) && ((List.getD l (Int.toNat (↑s_5.fst : Int))
  (Ytbadejabphdkiaa.K.dflt (tab (36 : TypeId)))).ret == (5 : Int) && true)) (∃ (s0 : Bool × MapL × MapD), StepRel (List.getD l (Int.toNat (↑s_5.fst : Int)) ansD)
  s_5.snd.fst s_5.snd.snd.fst s0.fst s0.snd.fst s0.snd.snd ∧ (EqA (AVal.bool true) (AVal.bool s0.fst) ∧ True) ∧ (EqR (Res.cells (44 : Nat) [AVal.int IntKind.i64 s,
  AVal.mapr (2 : Nat), AVal.mapr (3 : Nat)]) (Res.cells (44 : Nat) [AVal.int IntKind.i64 s, AVal.mapr (2 : Nat), AVal.mapr (3 : Nat)]) ∧ EqR (Res.vec (4 : Nat)
  s_5.snd.snd.snd) (Res.vec (4 : Nat) s_5.snd.snd.snd) ∧ EqR (Res.mapS IntKind.u64 (28 : Nat) s_5.snd.fst) (Res.mapS IntKind.u64 (28 : Nat) s0.snd.fst) ∧ EqR (Res.mapS
  IntKind.u64 (4 : Nat) s_5.snd.snd.fst) (Res.mapS IntKind.u64 (4 : Nat) s0.snd.snd) ∧ True) ∧ True) (cnd ((List.getD l (Int.toNat (↑s_5.fst : Int))
  (Ytbadejabphdkiaa.K.dflt (tab (36 : TypeId)))).op.k == (5 : Int) && ((List.getD l (Int.toNat (↑s_5.fst : Int)) (Ytbadejabphdkiaa.K.dflt (tab (36 : TypeId)))).ret == (5 :
  Int) && true)) (∃ (s0 : Bool × MapL × MapD), StepRel (List.getD l (Int.toNat (↑s_5.fst : Int)) ansD) s_5.snd.fst s_5.snd.snd.fst s0.fst s0.snd.fst s0.snd.snd ∧ (EqA
  (AVal.bool true) (AVal.bool s0.fst) ∧ True) ∧ (EqR (Res.cells (44 : Nat) [AVal.int IntKind.i64 s, AVal.mapr (2 : Nat), AVal.mapr (3 : Nat)]) (Res.cells (44 : Nat)
  [AVal.int IntKind.i64 s, AVal.mapr (2 : Nat), AVal.mapr (3 : Nat)]) ∧ EqR (Res.vec (4 : Nat) s_5.snd.snd.snd) (Res.vec (4 : Nat) s_5.snd.snd.snd) ∧ EqR (Res.mapS
  IntKind.u64 (28 : Nat) s_5.snd.fst) (Res.mapS IntKind.u64 (28 : Nat) s0.snd.fst) ∧ EqR (Res.mapS IntKind.u64 (4 : Nat) s_5.snd.snd.fst) (Res.mapS IntKind.u64 (4 : Nat)
  s0.snd.snd) ∧ True) ∧ True) (cnd ((List.getD l (Int.toNat (↑s_5.fst : Int)) (Ytbadejabphdkiaa.K.dflt (tab (36 : TypeId)))).op.k == (5 : Int) && ((List.getD l (Int.toNat
  (↑s_5.fst : Int)) (Ytbadejabphdkiaa.K.dflt (tab (36 : TypeId)))).ret == (0 : Int) && true)) (cnd (!hasM s_5.snd.fst (List.getD l (Int.toNat (↑s_5.fst : Int))
  (Ytbadejabphdkiaa.K.dflt (tab (36 : TypeId)))).t) (∃ (s0 : Bool × MapL × MapD), StepRel (List.getD l (Int.toNat (↑s_5.fst : Int)) ansD) s_5.snd.fst s_5.snd.snd.fst s0.fst
  s0.snd.fst s0.snd.snd ∧ (EqA (AVal.bool false) (AVal.bool s0.fst) ∧ True) ∧ (EqR (Res.cells (44 : Nat) [AVal.int IntKind.i64 s, AVal.mapr (2 : Nat), AVal.mapr (3 : Nat)])
  (Res.cells (44 : Nat) [AVal.int IntKind.i64 s, AVal.mapr (2 : Nat), AVal.mapr (3 : Nat)]) ∧ EqR (Res.vec (4 : Nat) s_5.snd.snd.snd) (Res.vec (4 : Nat) s_5.snd.snd.snd) ∧
  EqR (Res.mapS IntKind.u64 (28 : Nat) s_5.snd.fst) (Res.mapS IntKind.u64 (28 : Nat) s0.snd.fst) ∧ EqR (Res.mapS IntKind.u64 (4 : Nat) s_5.snd.snd.fst) (Res.mapS
  IntKind.u64 (4 : Nat) s0.snd.snd) ∧ True) ∧ True) (∃ (s0 : Bool × MapL × MapD), StepRel (List.getD l (Int.toNat (↑s_5.fst : Int)) ansD) s_5.snd.fst s_5.snd.snd.fst s0.fst
  s0.snd.fst s0.snd.snd ∧ (EqA (AVal.bool true) (AVal.bool s0.fst) ∧ True) ∧ (EqR (Res.cells (44 : Nat) [AVal.int IntKind.i64 s, AVal.mapr (2 : Nat), AVal.mapr (3 : Nat)])
  (Res.cells (44 : Nat) [AVal.int IntKind.i64 s, AVal.mapr (2 : Nat), AVal.mapr (3 : Nat)]) ∧ EqR (Res.vec (4 : Nat) s_5.snd.snd.snd) (Res.vec (4 : Nat) s_5.snd.snd.snd) ∧
  EqR (Res.mapS IntKind.u64 (28 : Nat) (setM s_5.snd.fst (List.getD l (Int.toNat (↑s_5.fst : Int)) (Ytbadejabphdkiaa.K.dflt (tab (36 : TypeId)))).t (List.getD l (Int.toNat
  (↑s_5.fst : Int)) (Ytbadejabphdkiaa.K.dflt (tab (36 : TypeId)))).op.x)) (Res.mapS IntKind.u64 (28 : Nat) s0.snd.fst) ∧ EqR (Res.mapS IntKind.u64 (4 : Nat)
  s_5.snd.snd.fst) (Res.mapS IntKind.u64 (4 : Nat) s0.snd.snd) ∧ True) ∧ True)) (cnd ((List.getD l (Int.toNat (↑s_5.fst : Int)) (Ytbadejabphdkiaa.K.dflt (tab (36 :
  TypeId)))).op.k == (6 : Int) && ((List.getD l (Int.toNat (↑s_5.fst : Int)) (Ytbadejabphdkiaa.K.dflt (tab (36 : TypeId)))).ret == (0 : Int) && true)) (cnd (hasM
  s_5.snd.fst (List.getD l (Int.toNat (↑s_5.fst : Int)) (Ytbadejabphdkiaa.K.dflt (tab (36 : TypeId)))).t == true) (cnd ((↑(List.length (List.getD l (Int.toNat (↑s_5.fst :
  Int)) (Ytbadejabphdkiaa.K.dflt (tab (36 : TypeId)))).read) : Int) != s) (∃ (s0 : Bool × MapL × MapD), StepRel (List.getD l (Int.toNat (↑s_5.fst : Int)) ansD) s_5.snd.fst
  s_5.snd.snd.fst s0.fst s0.snd.fst s0.snd.snd ∧ (EqA (AVal.bool false) (AVal.bool s0.fst) ∧ True) ∧ (EqR (Res.cells (44 : Nat) [AVal.int IntKind.i64 s, AVal.mapr (2 :
  Nat), AVal.mapr (3 : Nat)]) (Res.cells (44 : Nat) [AVal.int IntKind.i64 s, AVal.mapr (2 : Nat), AVal.mapr (3 : Nat)]) ∧ EqR (Res.vec (4 : Nat) s_5.snd.snd.snd) (Res.vec
  (4 : Nat) s_5.snd.snd.snd) ∧ EqR (Res.mapS IntKind.u64 (28 : Nat) s_5.snd.fst) (Res.mapS IntKind.u64 (28 : Nat) s0.snd.fst) ∧ EqR (Res.mapS IntKind.u64 (4 : Nat)
  s_5.snd.snd.fst) (Res.mapS IntKind.u64 (4 : Nat) s0.snd.snd) ∧ True) ∧ True) (cnd (decide ((0 : Int) < (↑(List.length (List.getD l (Int.toNat (↑s_5.fst : Int))
  (Ytbadejabphdkiaa.K.dflt (tab (36 : TypeId)))).read) : Int))) (((0 : Int) ≤ (0 : Int) ∧ (0 : Int) < (↑(List.length (List.getD l (Int.toNat (↑s_5.fst : Int))
  (Ytbadejabphdkiaa.K.dflt (tab (36 : TypeId)))).read) : Int)) ∧ cnd (List.getD (List.getD l (Int.toNat (↑s_5.fst : Int)) (Ytbadejabphdkiaa.K.dflt (tab (36 :
  TypeId)))).read (0 : Nat) (0 : Int) != IntKind.wrap IntKind.u64 (getM s_5.snd.fst (List.getD l (Int.toNat (↑s_5.fst : Int)) (Ytbadejabphdkiaa.K.dflt (tab (36 :
  TypeId)))).t (0 : Int) + (0 : Int))) (∃ (s0 : Bool × MapL × MapD), StepRel (List.getD l (Int.toNat (↑s_5.fst : Int)) ansD) s_5.snd.fst s_5.snd.snd.fst s0.fst s0.snd.fst
  s0.snd.snd ∧ (EqA (AVal.bool false) (AVal.bool s0.fst) ∧ True) ∧ (EqR (Res.cells (44 : Nat) [AVal.int IntKind.i64 s, AVal.mapr (2 : Nat), AVal.mapr (3 : Nat)]) (Res.cells
  (44 : Nat) [AVal.int IntKind.i64 s, AVal.mapr (2 : Nat), AVal.mapr (3 : Nat)]) ∧ EqR (Res.vec (4 : Nat) s_5.snd.snd.snd) (Res.vec (4 : Nat) s_5.snd.snd.snd) ∧ EqR
  (Res.mapS IntKind.u64 (28 : Nat) s_5.snd.fst) (Res.mapS IntKind.u64 (28 : Nat) s0.snd.fst) ∧ EqR (Res.mapS IntKind.u64 (4 : Nat) s_5.snd.snd.fst) (Res.mapS IntKind.u64 (4
  : Nat) s0.snd.snd) ∧ True) ∧ True) (cnd (decide ((1 : Int) < (↑(List.length (List.getD l (Int.toNat (↑s_5.fst : Int)) (Ytbadejabphdkiaa.K.dflt (tab (36 : TypeId)))).read)
  : Int))) (((0 : Int) ≤ (1 : Int) ∧ (1 : Int) < (↑(List.length (List.getD l (Int.toNat (↑s_5.fst : Int)) (Ytbadejabphdkiaa.K.dflt (tab (36 : TypeId)))).read) : Int)) ∧ cnd
  (List.getD (List.getD l (Int.toNat (↑s_5.fst : Int)) (Ytbadejabphdkiaa.K.dflt (tab (36 : TypeId)))).read (1 : Nat) (0 : Int) != IntKind.wrap IntKind.u64 (getM s_5.snd.fst
  (List.getD l (Int.toNat (↑s_5.fst : Int)) (Ytbadejabphdkiaa.K.dflt (tab (36 : TypeId)))).t (0 : Int) + (1 : Int))) (∃ (s0 : Bool × MapL × MapD), StepRel (List.getD l
  (Int.toNat (↑s_5.fst : Int)) ansD) s_5.snd.fst s_5.snd.snd.fst s0.fst s0.snd.fst s0.snd.snd ∧ (EqA (AVal.bool false) (AVal.bool s0.fst) ∧ True) ∧ (EqR (Res.cells (44 :
  Nat) [AVal.int IntKind.i64 s, AVal.mapr (2 : Nat), AVal.mapr (3 : Nat)]) (Res.cells (44 : Nat) [AVal.int IntKind.i64 s, AVal.mapr (2 : Nat), AVal.mapr (3 : Nat)]) ∧ EqR
  (Res.vec (4 : Nat) s_5.snd.snd.snd) (Res.vec (4 : Nat) s_5.snd.snd.snd) ∧ EqR (Res.mapS IntKind.u64 (28 : Nat) s_5.snd.fst) (Res.mapS IntKind.u64 (28 : Nat) s0.snd.fst) ∧
  EqR (Res.mapS IntKind.u64 (4 : Nat) s_5.snd.snd.fst) (Res.mapS IntKind.u64 (4 : Nat) s0.snd.snd) ∧ True) ∧ True) (cnd (decide ((2 : Int) < (↑(List.length (List.getD l
  (Int.toNat (↑s_5.fst : Int)) (Ytbadejabphdkiaa.K.dflt (tab (36 : TypeId)))).read) : Int))) (((0 : Int) ≤ (2 : Int) ∧ (2 : Int) < (↑(List.length (List.getD l (Int.toNat
  (↑s_5.fst : Int)) (Ytbadejabphdkiaa.K.dflt (tab (36 : TypeId)))).read) : Int)) ∧ cnd (List.getD (List.getD l (Int.toNat (↑s_5.fst : Int)) (Ytbadejabphdkiaa.K.dflt (tab
  (36 : TypeId)))).read (2 : Nat) (0 : Int) != IntKind.wrap IntKind.u64 (getM s_5.snd.fst (List.getD l (Int.toNat (↑s_5.fst : Int)) (Ytbadejabphdkiaa.K.dflt (tab (36 :
  TypeId)))).t (0 : Int) + (2 : Int))) (∃ (s0 : Bool × MapL × MapD), StepRel (List.getD l (Int.toNat (↑s_5.fst : Int)) ansD) s_5.snd.fst s_5.snd.snd.fst s0.fst s0.snd.fst
  s0.snd.snd ∧ (EqA (AVal.bool false) (AVal.bool s0.fst) ∧ True) ∧ (EqR (Res.cells (44 : Nat) [AVal.int IntKind.i64 s, AVal.mapr (2 : Nat), AVal.mapr (3 : Nat)]) (Res.cells
  (44 : Nat) [AVal.int IntKind.i64 s, AVal.mapr (2 : Nat), AVal.mapr (3 : Nat)]) ∧ EqR (Res.vec (4 : Nat) s_5.snd.snd.snd) (Res.vec (4 : Nat) s_5.snd.snd.snd) ∧ EqR
  (Res.mapS IntKind.u64 (28 : Nat) s_5.snd.fst) (Res.mapS IntKind.u64 (28 : Nat) s0.snd.fst) ∧ EqR (Res.mapS IntKind.u64 (4 : Nat) s_5.snd.snd.fst) (Res.mapS IntKind.u64 (4
  : Nat) s0.snd.snd) ∧ True) ∧ True) (cnd (decide ((3 : Int) < (↑(List.length (List.getD l (Int.toNat (↑s_5.fst : Int)) (Ytbadejabphdkiaa.K.dflt (tab (36 : TypeId)))).read)
  : Int))) (((0 : Int) ≤ (3 : Int) ∧ (3 : Int) < (↑(List.length (List.getD l (Int.toNat (↑s_5.fst : Int)) (Ytbadejabphdkiaa.K.dflt (tab (36 : TypeId)))).read) : Int)) ∧ cnd
  (List.getD (List.getD l (Int.toNat (↑s_5.fst : Int)) (Ytbadejabphdkiaa.K.dflt (tab (36 : TypeId)))).read (3 : Nat) (0 : Int) != IntKind.wrap IntKind.u64 (getM s_5.snd.fst
  (List.getD l (Int.toNat (↑s_5.fst : Int)) (Ytbadejabphdkiaa.K.dflt (tab (36 : TypeId)))).t (0 : Int) + (3 : Int))) (∃ (s0 : Bool × MapL × MapD), StepRel (List.getD l
  (Int.toNat (↑s_5.fst : Int)) ansD) s_5.snd.fst s_5.snd.snd.fst s0.fst s0.snd.fst s0.snd.snd ∧ (EqA (AVal.bool false) (AVal.bool s0.fst) ∧ True) ∧ (EqR (Res.cells (44 :
  Nat) [AVal.int IntKind.i64 s, AVal.mapr (2 : Nat), AVal.mapr (3 : Nat)]) (Res.cells (44 : Nat) [AVal.int IntKind.i64 s, AVal.mapr (2 : Nat), AVal.mapr (3 : Nat)]) ∧ EqR
  (Res.vec (4 : Nat) s_5.snd.snd.snd) (Res.vec (4 : Nat) s_5.snd.snd.snd) ∧ EqR (Res.mapS IntKind.u64 (28 : Nat) s_5.snd.fst) (Res.mapS IntKind.u64 (28 : Nat) s0.snd.fst) ∧
  EqR (Res.mapS IntKind.u64 (4 : Nat) s_5.snd.snd.fst) (Res.mapS IntKind.u64 (4 : Nat) s0.snd.snd) ∧ True) ∧ True) (cnd (decide ((4 : Int) < (↑(List.length (List.getD l
  (Int.toNat (↑s_5.fst : Int)) (Ytbadejabphdkiaa.K.dflt (tab (36 : TypeId)))).read) : Int))) (((0 : Int) ≤ (4 : Int) ∧ (4 : Int) < (↑(List.length (List.getD l (Int.toNat
  (↑s_5.fst : Int)) (Ytbadejabphdkiaa.K.dflt (tab (36 : TypeId)))).read) : Int)) ∧ cnd (List.getD (List.getD l (Int.toNat (↑s_5.fst : Int)) (Ytbadejabphdkiaa.K.dflt (tab
  (36 : TypeId)))).read (4 : Nat) (0 : Int) != IntKind.wrap IntKind.u64 (getM s_5.snd.fst (List.getD l (Int.toNat (↑s_5.fst : Int)) (Ytbadejabphdkiaa.K.dflt (tab (36 :
  TypeId)))).t (0 : Int) + (4 : Int))) (∃ (s0 : Bool × MapL × MapD), StepRel (List.getD l (Int.toNat (↑s_5.fst : Int)) ansD) s_5.snd.fst s_5.snd.snd.fst s0.fst s0.snd.fst
  s0.snd.snd ∧ (EqA (AVal.bool false) (AVal.bool s0.fst) ∧ True) ∧ (EqR (Res.cells (44 : Nat) [AVal.int IntKind.i64 s, AVal.mapr (2 : Nat), AVal.mapr (3 : Nat)]) (Res.cells
  (44 : Nat) [AVal.int IntKind.i64 s, AVal.mapr (2 : Nat), AVal.mapr (3 : Nat)]) ∧ EqR (Res.vec (4 : Nat) s_5.snd.snd.snd) (Res.vec (4 : Nat) s_5.snd.snd.snd) ∧ EqR
  (Res.mapS IntKind.u64 (28 : Nat) s_5.snd.fst) (Res.mapS IntKind.u64 (28 : Nat) s0.snd.fst) ∧ EqR (Res.mapS IntKind.u64 (4 : Nat) s_5.snd.snd.fst) (Res.mapS IntKind.u64 (4
  : Nat) s0.snd.snd) ∧ True) ∧ True) (cnd (decide ((5 : Int) < (↑(List.length (List.getD l (Int.toNat (↑s_5.fst : Int)) (Ytbadejabphdkiaa.K.dflt (tab (36 : TypeId)))).read)
  : Int))) (((0 : Int) ≤ (5 : Int) ∧ (5 : Int) < (↑(List.length (List.getD l (Int.toNat (↑s_5.fst : Int)) (Ytbadejabphdkiaa.K.dflt (tab (36 : TypeId)))).read) : Int)) ∧ cnd
  (List.getD (List.getD l (Int.toNat (↑s_5.fst : Int)) (Ytbadejabphdkiaa.K.dflt (tab (36 : TypeId)))).read (5 : Nat) (0 : Int) != IntKind.wrap IntKind.u64 (getM s_5.snd.fst
  (List.getD l (Int.toNat (↑s_5.fst : Int)) (Ytbadejabphdkiaa.K.dflt (tab (36 : TypeId)))).t (0 : Int) + (5 : Int))) (∃ (s0 : Bool × MapL × MapD), StepRel (List.getD l
  (Int.toNat (↑s_5.fst : Int)) ansD) s_5.snd.fst s_5.snd.snd.fst s0.fst s0.snd.fst s0.snd.snd ∧ (EqA (AVal.bool false) (AVal.bool s0.fst) ∧ True) ∧ (EqR (Res.cells (44 :
  Nat) [AVal.int IntKind.i64 s, AVal.mapr (2 : Nat), AVal.mapr (3 : Nat)]) (Res.cells (44 : Nat) [AVal.int IntKind.i64 s, AVal.mapr (2 : Nat), AVal.mapr (3 : Nat)]) ∧ EqR
  (Res.vec (4 : Nat) s_5.snd.snd.snd) (Res.vec (4 : Nat) s_5.snd.snd.snd) ∧ EqR (Res.mapS IntKind.u64 (28 : Nat) s_5.snd.fst) (Res.mapS IntKind.u64 (28 : Nat) s0.snd.fst) ∧
  EqR (Res.mapS IntKind.u64 (4 : Nat) s_5.snd.snd.fst) (Res.mapS IntKind.u64 (4 : Nat) s0.snd.snd) ∧ True) ∧ True) (cnd (decide ((6 : Int) < (↑(List.length (List.getD l
  (Int.toNat (↑s_5.fst : Int)) (Ytbadejabphdkiaa.K.dflt (tab (36 : TypeId)))).read) : Int))) (((0 : Int) ≤ (6 : Int) ∧ (6 : Int) < (↑(List.length (List.getD l (Int.toNat
  (↑s_5.fst : Int)) (Ytbadejabphdkiaa.K.dflt (tab (36 : TypeId)))).read) : Int)) ∧ cnd (List.getD (List.getD l (Int.toNat (↑s_5.fst : Int)) (Ytbadejabphdkiaa.K.dflt (tab
  (36 : TypeId)))).read (6 : Nat) (0 : Int) != IntKind.wrap IntKind.u64 (getM s_5.snd.fst (List.getD l (Int.toNat (↑s_5.fst : Int)) (Ytbadejabphdkiaa.K.dflt (tab (36 :
  TypeId)))).t (0 : Int) + (6 : Int))) False (cnd (decide ((7 : Int) < (↑(List.length (List.getD l (Int.toNat (↑s_5.fst : Int)) (Ytbadejabphdkiaa.K.dflt (tab (36 :
  TypeId)))).read) : Int))) (((0 : Int) ≤ (7 : Int) ∧ (7 : Int) < (↑(List.length (List.getD l (Int.toNat (↑s_5.fst : Int)) (Ytbadejabphdkiaa.K.dflt (tab (36 :
  TypeId)))).read) : Int)) ∧ cnd (List.getD (List.getD l (Int.toNat (↑s_5.fst : Int)) (Ytbadejabphdkiaa.K.dflt (tab (36 : TypeId)))).read (7 : Nat) (0 : Int) !=
  IntKind.wrap IntKind.u64 (getM s_5.snd.fst (List.getD l (Int.toNat (↑s_5.fst : Int)) (Ytbadejabphdkiaa.K.dflt (tab (36 : TypeId)))).t (0 : Int) + (7 : Int))) False False)
  (∃ (s0 : Bool × MapL × MapD), StepRel (List.getD l (Int.toNat (↑s_5.fst : Int)) ansD) s_5.snd.fst s_5.snd.snd.fst s0.fst s0.snd.fst s0.snd.snd ∧ (EqA (AVal.bool true)
  (AVal.bool s0.fst) ∧ True) ∧ (EqR (Res.cells (44 : Nat) [AVal.int IntKind.i64 s, AVal.mapr (2 : Nat), AVal.mapr (3 : Nat)]) (Res.cells (44 : Nat) [AVal.int IntKind.i64 s,
  AVal.mapr (2 : Nat), AVal.mapr (3 : Nat)]) ∧ EqR (Res.vec (4 : Nat) s_5.snd.snd.snd) (Res.vec (4 : Nat) s_5.snd.snd.snd) ∧ EqR (Res.mapS IntKind.u64 (28 : Nat)
  s_5.snd.fst) (Res.mapS IntKind.u64 (28 : Nat) s0.snd.fst) ∧ EqR (Res.mapS IntKind.u64 (4 : Nat) s_5.snd.snd.fst) (Res.mapS IntKind.u64 (4 : Nat) s0.snd.snd) ∧ True) ∧
  True))) (∃ (s0 : Bool × MapL × MapD), StepRel (List.getD l (Int.toNat (↑s_5.fst : Int)) ansD) s_5.snd.fst s_5.snd.snd.fst s0.fst s0.snd.fst s0.snd.snd ∧ (EqA (AVal.bool
  true) (AVal.bool s0.fst) ∧ True) ∧ (EqR (Res.cells (44 : Nat) [AVal.int IntKind.i64 s, AVal.mapr (2 : Nat), AVal.mapr (3 : Nat)]) (Res.cells (44 : Nat) [AVal.int
  IntKind.i64 s, AVal.mapr (2 : Nat), AVal.mapr (3 : Nat)]) ∧ EqR (Res.vec (4 : Nat) s_5.snd.snd.snd) (Res.vec (4 : Nat) s_5.snd.snd.snd) ∧ EqR (Res.mapS IntKind.u64 (28 :
  Nat) s_5.snd.fst) (Res.mapS IntKind.u64 (28 : Nat) s0.snd.fst) ∧ EqR (Res.mapS IntKind.u64 (4 : Nat) s_5.snd.snd.fst) (Res.mapS IntKind.u64 (4 : Nat) s0.snd.snd) ∧ True)
  ∧ True))) (∃ (s0 : Bool × MapL × MapD), StepRel (List.getD l (Int.toNat (↑s_5.fst : Int)) ansD) s_5.snd.fst s_5.snd.snd.fst s0.fst s0.snd.fst s0.snd.snd ∧ (EqA (AVal.bool
  true) (AVal.bool s0.fst) ∧ True) ∧ (EqR (Res.cells (44 : Nat) [AVal.int IntKind.i64 s, AVal.mapr (2 : Nat), AVal.mapr (3 : Nat)]) (Res.cells (44 : Nat) [AVal.int
  IntKind.i64 s, AVal.mapr (2 : Nat), AVal.mapr (3 : Nat)]) ∧ EqR (Res.vec (4 : Nat) s_5.snd.snd.snd) (Res.vec (4 : Nat) s_5.snd.snd.snd) ∧ EqR (Res.mapS IntKind.u64 (28 :
  Nat) s_5.snd.fst) (Res.mapS IntKind.u64 (28 : Nat) s0.snd.fst) ∧ EqR (Res.mapS IntKind.u64 (4 : Nat) s_5.snd.snd.fst) (Res.mapS IntKind.u64 (4 : Nat) s0.snd.snd) ∧ True)
  ∧ True))) (∃ (s0 : Bool × MapL × MapD), StepRel (List.getD l (Int.toNat (↑s_5.fst : Int)) ansD) s_5.snd.fst s_5.snd.snd.fst s0.fst s0.snd.fst s0.snd.snd ∧ (EqA (AVal.bool
  true) (AVal.bool s0.fst) ∧ True) ∧ (EqR (Res.cells (44 : Nat) [AVal.int IntKind.i64 s, AVal.mapr (2 : Nat), AVal.mapr (3 : Nat)]) (Res.cells (44 : Nat) [AVal.int
  IntKind.i64 s, AVal.mapr (2 : Nat), AVal.mapr (3 : Nat)]) ∧ EqR (Res.vec (4 : Nat) s_5.snd.snd.snd) (Res.vec (4 : Nat) s_5.snd.snd.snd) ∧ EqR (Res.mapS IntKind.u64 (28 :
  Nat) s_5.snd.fst) (Res.mapS IntKind.u64 (28 : Nat) s0.snd.fst) ∧ EqR (Res.mapS IntKind.u64 (4 : Nat) s_5.snd.snd.fst) (Res.mapS IntKind.u64 (4 : Nat) s0.snd.snd) ∧ True)
  ∧ True))) (∃ (s0 : Bool × MapL × MapD), StepRel (List.getD l (Int.toNat (↑s_5.fst : Int)) ansD) s_5.snd.fst s_5.snd.snd.fst s0.fst s0.snd.fst s0.snd.snd ∧ (EqA (AVal.bool
  true) (AVal.bool s0.fst) ∧ True) ∧ (EqR (Res.cells (44 : Nat) [AVal.int IntKind.i64 s, AVal.mapr (2 : Nat), AVal.mapr (3 : Nat)]) (Res.cells (44 : Nat) [AVal.int
  IntKind.i64 s, AVal.mapr (2 : Nat), AVal.mapr (3 : Nat)]) ∧ EqR (Res.vec (4 : Nat) s_5.snd.snd.snd) (Res.vec (4 : Nat) s_5.snd.snd.snd) ∧ EqR (Res.mapS IntKind.u64 (28 :
  Nat) s_5.snd.fst) (Res.mapS IntKind.u64 (28 : Nat) s0.snd.fst) ∧ EqR (Res.mapS IntKind.u64 (4 : Nat) s_5.snd.snd.fst) (Res.mapS IntKind.u64 (4 : Nat) s0.snd.snd) ∧ True)
  ∧ True))) (∃ (s0 : Bool × MapL × MapD), StepRel (List.getD l (Int.toNat (↑s_5.fst : Int)) ansD) s_5.snd.fst s_5.snd.snd.fst s0.fst s0.snd.fst s0.snd.snd ∧ (EqA (AVal.bool
  true) (AVal.bool s0.fst) ∧ True) ∧ (EqR (Res.cells (44 : Nat) [AVal.int IntKind.i64 s, AVal.mapr (2 : Nat), AVal.mapr (3 : Nat)]) (Res.cells (44 : Nat) [AVal.int
  IntKind.i64 s, AVal.mapr (2 : Nat), AVal.mapr (3 : Nat)]) ∧ EqR (Res.vec (4 : Nat) s_5.snd.snd.snd) (Res.vec (4 : Nat) s_5.snd.snd.snd) ∧ EqR (Res.mapS IntKind.u64 (28 :
  Nat) s_5.snd.fst) (Res.mapS IntKind.u64 (28 : Nat) s0.snd.fst) ∧ EqR (Res.mapS IntKind.u64 (4 : Nat) s_5.snd.snd.fst) (Res.mapS IntKind.u64 (4 : Nat) s0.snd.snd) ∧ True)
  ∧ True))) (∃ (s0 : Bool × MapL × MapD), StepRel (List.getD l (Int.toNat (↑s_5.fst : Int)) ansD) s_5.snd.fst s_5.snd.snd.fst s0.fst s0.snd.fst s0.snd.snd ∧ (EqA (AVal.bool
  true) (AVal.bool s0.fst) ∧ True) ∧ (EqR (Res.cells (44 : Nat) [AVal.int IntKind.i64 s, AVal.mapr (2 : Nat), AVal.mapr (3 : Nat)]) (Res.cells (44 : Nat) [AVal.int
  IntKind.i64 s, AVal.mapr (2 : Nat), AVal.mapr (3 : Nat)]) ∧ EqR (Res.vec (4 : Nat) s_5.snd.snd.snd) (Res.vec (4 : Nat) s_5.snd.snd.snd) ∧ EqR (Res.mapS IntKind.u64 (28 :
  Nat) s_5.snd.fst) (Res.mapS IntKind.u64 (28 : Nat) s0.snd.fst) ∧ EqR (Res.mapS IntKind.u64 (4 : Nat) s_5.snd.snd.fst) (Res.mapS IntKind.u64 (4 : Nat) s0.snd.snd) ∧ True)
  ∧ True))) (∃ (s0 : Bool × MapL × MapD), StepRel (List.getD l (Int.toNat (↑s_5.fst : Int)) ansD) s_5.snd.fst s_5.snd.snd.fst s0.fst s0.snd.fst s0.snd.snd ∧ (EqA (AVal.bool
  true) (AVal.bool s0.fst) ∧ True) ∧ (EqR (Res.cells (44 : Nat) [AVal.int IntKind.i64 s, AVal.mapr (2 : Nat), AVal.mapr (3 : Nat)]) (Res.cells (44 : Nat) [AVal.int
  IntKind.i64 s, AVal.mapr (2 : Nat), AVal.mapr (3 : Nat)]) ∧ EqR (Res.vec (4 : Nat) s_5.snd.snd.snd) (Res.vec (4 : Nat) s_5.snd.snd.snd) ∧ EqR (Res.mapS IntKind.u64 (28 :
  Nat) s_5.snd.fst) (Res.mapS IntKind.u64 (28 : Nat) s0.snd.fst) ∧ EqR (Res.mapS IntKind.u64 (4 : Nat) s_5.snd.snd.fst) (Res.mapS IntKind.u64 (4 : Nat) s0.snd.snd) ∧ True)
  ∧ True))) (∃ (s0 : Bool × MapL × MapD), StepRel (List.getD l (Int.toNat (↑s_5.fst : Int)) ansD) s_5.snd.fst s_5.snd.snd.fst s0.fst s0.snd.fst s0.snd.snd ∧ (EqA (AVal.bool
  false) (AVal.bool s0.fst) ∧ True) ∧ (EqR (Res.cells (44 : Nat) [AVal.int IntKind.i64 s, AVal.mapr (2 : Nat), AVal.mapr (3 : Nat)]) (Res.cells (44 : Nat) [AVal.int
  IntKind.i64 s, AVal.mapr (2 : Nat), AVal.mapr (3 : Nat)]) ∧ EqR (Res.vec (4 : Nat) s_5.snd.snd.snd) (Res.vec (4 : Nat) s_5.snd.snd.snd) ∧ EqR (Res.mapS IntKind.u64 (28 :
  Nat) s_5.snd.fst) (Res.mapS IntKind.u64 (28 : Nat) s0.snd.fst) ∧ EqR (Res.mapS IntKind.u64 (4 : Nat) s_5.snd.snd.fst) (Res.mapS IntKind.u64 (4 : Nat) s0.snd.snd) ∧ True)
  ∧ True)) (cnd ((List.getD l (Int.toNat (↑s_5.fst : Int)) (Ytbadejabphdkiaa.K.dflt (tab (36 : TypeId)))).op.k == (4 : Int) && ((List.getD l (Int.toNat (↑s_5.fst : Int))
  (Ytbadejabphdkiaa.K.dflt (tab (36 : TypeId)))).ret == (0 : Int) && true)) (cnd (!hasM s_5.snd.fst (List.getD l (Int.toNat (↑s_5.fst : Int)) (Ytbadejabphdkiaa.K.dflt (tab
  (36 : TypeId)))).t) (∃ (s0 : Bool × MapL × MapD), StepRel (List.getD l (Int.toNat (↑s_5.fst : Int)) ansD) s_5.snd.fst s_5.snd.snd.fst s0.fst s0.snd.fst s0.snd.snd ∧ (EqA
  (AVal.bool false) (AVal.bool s0.fst) ∧ True) ∧ (EqR (Res.cells (44 : Nat) [AVal.int IntKind.i64 s, AVal.mapr (2 : Nat), AVal.mapr (3 : Nat)]) (Res.cells (44 : Nat)
  [AVal.int IntKind.i64 s, AVal.mapr (2 : Nat), AVal.mapr (3 : Nat)]) ∧ EqR (Res.vec (4 : Nat) s_5.snd.snd.snd) (Res.vec (4 : Nat) s_5.snd.snd.snd) ∧ EqR (Res.mapS
  IntKind.u64 (28 : Nat) s_5.snd.fst) (Res.mapS IntKind.u64 (28 : Nat) s0.snd.fst) ∧ EqR (Res.mapS IntKind.u64 (4 : Nat) s_5.snd.snd.fst) (Res.mapS IntKind.u64 (4 : Nat)
  s0.snd.snd) ∧ True) ∧ True) (∃ (s0 : Bool × MapL × MapD), StepRel (List.getD l (Int.toNat (↑s_5.fst : Int)) ansD) s_5.snd.fst s_5.snd.snd.fst s0.fst s0.snd.fst s0.snd.snd
  ∧ (EqA (AVal.bool true) (AVal.bool s0.fst) ∧ True) ∧ (EqR (Res.cells (44 : Nat) [AVal.int IntKind.i64 s, AVal.mapr (2 : Nat), AVal.mapr (3 : Nat)]) (Res.cells (44 : Nat)
  [AVal.int IntKind.i64 s, AVal.mapr (2 : Nat), AVal.mapr (3 : Nat)]) ∧ EqR (Res.vec (4 : Nat) s_5.snd.snd.snd) (Res.vec (4 : Nat) s_5.snd.snd.snd) ∧ EqR (Res.mapS
  IntKind.u64 (28 : Nat) (delM s_5.snd.fst (List.getD l (Int.toNat (↑s_5.fst : Int)) (Ytbadejabphdkiaa.K.dflt (tab (36 : TypeId)))).t)) (Res.mapS IntKind.u64 (28 : Nat)
  s0.snd.fst) ∧ EqR (Res.mapS IntKind.u64 (4 : Nat) (setM s_5.snd.snd.fst (List.getD l (Int.toNat (↑s_5.fst : Int)) (Ytbadejabphdkiaa.K.dflt (tab (36 : TypeId)))).t true))
  (Res.mapS IntKind.u64 (4 : Nat) s0.snd.snd) ∧ True) ∧ True)) (cnd ((List.getD l (Int.toNat (↑s_5.fst : Int)) (Ytbadejabphdkiaa.K.dflt (tab (36 : TypeId)))).op.k ==
  List.getD [(4 : Int), (5 : Int), (6 : Int)] (0 : Nat) (0 : Int) && ((List.getD l (Int.toNat (↑s_5.fst : Int)) (Ytbadejabphdkiaa.K.dflt (tab (36 : TypeId)))).ret ==
  List.getD [(7 : Int), (8 : Int)] (0 : Nat) (0 : Int) && true)) (cnd (!!hasM s_5.snd.fst (List.getD l (Int.toNat (↑s_5.fst : Int)) (Ytbadejabphdkiaa.K.dflt (tab (36 :
  TypeId)))).t) (∃ (s0 : Bool × MapL × MapD), StepRel (List.getD l (Int.toNat (↑s_5.fst : Int)) ansD) s_5.snd.fst s_5.snd.snd.fst s0.fst s0.snd.fst s0.snd.snd ∧ (EqA
  (AVal.bool false) (AVal.bool s0.fst) ∧ True) ∧ (EqR (Res.cells (44 : Nat) [AVal.int IntKind.i64 s, AVal.mapr (2 : Nat), AVal.mapr (3 : Nat)]) (Res.cells (44 : Nat)
  [AVal.int IntKind.i64 s, AVal.mapr (2 : Nat), AVal.mapr (3 : Nat)]) ∧ EqR (Res.vec (4 : Nat) s_5.snd.snd.snd) (Res.vec (4 : Nat) s_5.snd.snd.snd) ∧ EqR (Res.mapS
  IntKind.u64 (28 : Nat) s_5.snd.fst) (Res.mapS IntKind.u64 (28 : Nat) s0.snd.fst) ∧ EqR (Res.mapS IntKind.u64 (4 : Nat) s_5.snd.snd.fst) (Res.mapS IntKind.u64 (4 : Nat)
  s0.snd.snd) ∧ True) ∧ True) (∃ (s0 : Bool × MapL × MapD), StepRel (List.getD l (Int.toNat (↑s_5.fst : Int)) ansD) s_5.snd.fst s_5.snd.snd.fst s0.fst s0.snd.fst s0.snd.snd
  ∧ (EqA (AVal.bool true) (AVal.bool s0.fst) ∧ True) ∧ (EqR (Res.cells (44 : Nat) [AVal.int IntKind.i64 s, AVal.mapr (2 : Nat), AVal.mapr (3 : Nat)]) (Res.cells (44 : Nat)
  [AVal.int IntKind.i64 s, AVal.mapr (2 : Nat), AVal.mapr (3 : Nat)]) ∧ EqR (Res.vec (4 : Nat) s_5.snd.snd.snd) (Res.vec (4 : Nat) s_5.snd.snd.snd) ∧ EqR (Res.mapS
  IntKind.u64 (28 : Nat) s_5.snd.fst) (Res.mapS IntKind.u64 (28 : Nat) s0.snd.fst) ∧ EqR (Res.mapS IntKind.u64 (4 : Nat) s_5.snd.snd.fst) (Res.mapS IntKind.u64 (4 : Nat)
  s0.snd.snd) ∧ True) ∧ True)) (cnd ((List.getD l (Int.toNat (↑s_5.fst : Int)) (Ytbadejabphdkiaa.K.dflt (tab (36 : TypeId)))).op.k == List.getD [(4 : Int), (5 : Int), (6 :
  Int)] (0 : Nat) (0 : Int) && ((List.getD l (Int.toNat (↑s_5.fst : Int)) (Ytbadejabphdkiaa.K.dflt (tab (36 : TypeId)))).ret == List.getD [(7 : Int), (8 : Int)] (1 : Nat)
  (0 : Int) && true)) (cnd (!!hasM s_5.snd.fst (List.getD l (Int.toNat (↑s_5.fst : Int)) (Ytbadejabphdkiaa.K.dflt (tab (36 : TypeId)))).t) (∃ (s0 : Bool × MapL × MapD),
  StepRel (List.getD l (Int.toNat (↑s_5.fst : Int)) ansD) s_5.snd.fst s_5.snd.snd.fst s0.fst s0.snd.fst s0.snd.snd ∧ (EqA (AVal.bool false) (AVal.bool s0.fst) ∧ True) ∧
  (EqR (Res.cells (44 : Nat) [AVal.int IntKind.i64 s, AVal.mapr (2 : Nat), AVal.mapr (3 : Nat)]) (Res.cells (44 : Nat) [AVal.int IntKind.i64 s, AVal.mapr (2 : Nat),
  AVal.mapr (3 : Nat)]) ∧ EqR (Res.vec (4 : Nat) s_5.snd.snd.snd) (Res.vec (4 : Nat) s_5.snd.snd.snd) ∧ EqR (Res.mapS IntKind.u64 (28 : Nat) s_5.snd.fst) (Res.mapS
  IntKind.u64 (28 : Nat) s0.snd.fst) ∧ EqR (Res.mapS IntKind.u64 (4 : Nat) s_5.snd.snd.fst) (Res.mapS IntKind.u64 (4 : Nat) s0.snd.snd) ∧ True) ∧ True) (∃ (s0 : Bool × MapL
  × MapD), StepRel (List.getD l (Int.toNat (↑s_5.fst : Int)) ansD) s_5.snd.fst s_5.snd.snd.fst s0.fst s0.snd.fst s0.snd.snd ∧ (EqA (AVal.bool true) (AVal.bool s0.fst) ∧
  True) ∧ (EqR (Res.cells (44 : Nat) [AVal.int IntKind.i64 s, AVal.mapr (2 : Nat), AVal.mapr (3 : Nat)]) (Res.cells (44 : Nat) [AVal.int IntKind.i64 s, AVal.mapr (2 : Nat),
  AVal.mapr (3 : Nat)]) ∧ EqR (Res.vec (4 : Nat) s_5.snd.snd.snd) (Res.vec (4 : Nat) s_5.snd.snd.snd) ∧ EqR (Res.mapS IntKind.u64 (28 : Nat) s_5.snd.fst) (Res.mapS
  IntKind.u64 (28 : Nat) s0.snd.fst) ∧ EqR (Res.mapS IntKind.u64 (4 : Nat) s_5.snd.snd.fst) (Res.mapS IntKind.u64 (4 : Nat) s0.snd.snd) ∧ True) ∧ True)) (cnd ((List.getD l
  (Int.toNat (↑s_5.fst : Int)) (Ytbadejabphdkiaa.K.dflt (tab (36 : TypeId)))).op.k == List.getD [(4 : Int), (5 : Int), (6 : Int)] (0 : Nat) (0 : Int) && ((List.getD l
  (Int.toNat (↑s_5.fst : Int)) (Ytbadejabphdkiaa.K.dflt (tab (36 : TypeId)))).ret == (6 : Int) && true)) (cnd (!hasM s_5.snd.fst (List.getD l (Int.toNat (↑s_5.fst : Int))
  (Ytbadejabphdkiaa.K.dflt (tab (36 : TypeId)))).t) (∃ (s0 : Bool × MapL × MapD), StepRel (List.getD l (Int.toNat (↑s_5.fst : Int)) ansD) s_5.snd.fst s_5.snd.snd.fst s0.fst
  s0.snd.fst s0.snd.snd ∧ (EqA (AVal.bool false) (AVal.bool s0.fst) ∧ True) ∧ (EqR (Res.cells (44 : Nat) [AVal.int IntKind.i64 s, AVal.mapr (2 : Nat), AVal.mapr (3 : Nat)])
  (Res.cells (44 : Nat) [AVal.int IntKind.i64 s, AVal.mapr (2 : Nat), AVal.mapr (3 : Nat)]) ∧ EqR (Res.vec (4 : Nat) s_5.snd.snd.snd) (Res.vec (4 : Nat) s_5.snd.snd.snd) ∧
  EqR (Res.mapS IntKind.u64 (28 : Nat) s_5.snd.fst) (Res.mapS IntKind.u64 (28 : Nat) s0.snd.fst) ∧ EqR (Res.mapS IntKind.u64 (4 : Nat) s_5.snd.snd.fst) (Res.mapS
  IntKind.u64 (4 : Nat) s0.snd.snd) ∧ True) ∧ True) (∃ (s0 : Bool × MapL × MapD), StepRel (List.getD l (Int.toNat (↑s_5.fst : Int)) ansD) s_5.snd.fst s_5.snd.snd.fst s0.fst
  s0.snd.fst s0.snd.snd ∧ (EqA (AVal.bool true) (AVal.bool s0.fst) ∧ True) ∧ (EqR (Res.cells (44 : Nat) [AVal.int IntKind.i64 s, AVal.mapr (2 : Nat), AVal.mapr (3 : Nat)])
  (Res.cells (44 : Nat) [AVal.int IntKind.i64 s, AVal.mapr (2 : Nat), AVal.mapr (3 : Nat)]) ∧ EqR (Res.vec (4 : Nat) s_5.snd.snd.snd) (Res.vec (4 : Nat) s_5.snd.snd.snd) ∧
  EqR (Res.mapS IntKind.u64 (28 : Nat) s_5.snd.fst) (Res.mapS IntKind.u64 (28 : Nat) s0.snd.fst) ∧ EqR (Res.mapS IntKind.u64 (4 : Nat) s_5.snd.snd.fst) (Res.mapS
  IntKind.u64 (4 : Nat) s0.snd.snd) ∧ True) ∧ True)) (cnd ((List.getD l (Int.toNat (↑s_5.fst : Int)) (Ytbadejabphdkiaa.K.dflt (tab (36 : TypeId)))).op.k == List.getD [(4 :
  Int), (5 : Int), (6 : Int)] (1 : Nat) (0 : Int) && ((List.getD l (Int.toNat (↑s_5.fst : Int)) (Ytbadejabphdkiaa.K.dflt (tab (36 : TypeId)))).ret == List.getD [(7 : Int),
  (8 : Int)] (0 : Nat) (0 : Int) && true)) (cnd (!!hasM s_5.snd.fst (List.getD l (Int.toNat (↑s_5.fst : Int)) (Ytbadejabphdkiaa.K.dflt (tab (36 : TypeId)))).t) (∃ (s0 :
  Bool × MapL × MapD), StepRel (List.getD l (Int.toNat (↑s_5.fst : Int)) ansD) s_5.snd.fst s_5.snd.snd.fst s0.fst s0.snd.fst s0.snd.snd ∧ (EqA (AVal.bool false) (AVal.bool
  s0.fst) ∧ True) ∧ (EqR (Res.cells (44 : Nat) [AVal.int IntKind.i64 s, AVal.mapr (2 : Nat), AVal.mapr (3 : Nat)]) (Res.cells (44 : Nat) [AVal.int IntKind.i64 s, AVal.mapr
  (2 : Nat), AVal.mapr (3 : Nat)]) ∧ EqR (Res.vec (4 : Nat) s_5.snd.snd.snd) (Res.vec (4 : Nat) s_5.snd.snd.snd) ∧ EqR (Res.mapS IntKind.u64 (28 : Nat) s_5.snd.fst)
  (Res.mapS IntKind.u64 (28 : Nat) s0.snd.fst) ∧ EqR (Res.mapS IntKind.u64 (4 : Nat) s_5.snd.snd.fst) (Res.mapS IntKind.u64 (4 : Nat) s0.snd.snd) ∧ True) ∧ True) (∃ (s0 :
  Bool × MapL × MapD), StepRel (List.getD l (Int.toNat (↑s_5.fst : Int)) ansD) s_5.snd.fst s_5.snd.snd.fst s0.fst s0.snd.fst s0.snd.snd ∧ (EqA (AVal.bool true) (AVal.bool
  s0.fst) ∧ True) ∧ (EqR (Res.cells (44 : Nat) [AVal.int IntKind.i64 s, AVal.mapr (2 : Nat), AVal.mapr (3 : Nat)]) (Res.cells (44 : Nat) [AVal.int IntKind.i64 s, AVal.mapr
  (2 : Nat), AVal.mapr (3 : Nat)]) ∧ EqR (Res.vec (4 : Nat) s_5.snd.snd.snd) (Res.vec (4 : Nat) s_5.snd.snd.snd) ∧ EqR (Res.mapS IntKind.u64 (28 : Nat) s_5.snd.fst)
  (Res.mapS IntKind.u64 (28 : Nat) s0.snd.fst) ∧ EqR (Res.mapS IntKind.u64 (4 : Nat) s_5.snd.snd.fst) (Res.mapS IntKind.u64 (4 : Nat) s0.snd.snd) ∧ True) ∧ True)) (cnd
  ((List.getD l (Int.toNat (↑s_5.fst : Int)) (Ytbadejabphdkiaa.K.dflt (tab (36 : TypeId)))).op.k == List.getD [(4 : Int), (5 : Int), (6 : Int)] (1 : Nat) (0 : Int) &&
  ((List.getD l (Int.toNat (↑s_5.fst : Int)) (Ytbadejabphdkiaa.K.dflt (tab (36 : TypeId)))).ret == List.getD [(7 : Int), (8 : Int)] (1 : Nat) (0 : Int) && true)) (cnd
  (!!hasM s_5.snd.fst (List.getD l (Int.toNat (↑s_5.fst : Int)) (Ytbadejabphdkiaa.K.dflt (tab (36 : TypeId)))).t) (∃ (s0 : Bool × MapL × MapD), StepRel (List.getD l
  (Int.toNat (↑s_5.fst : Int)) ansD) s_5.snd.fst s_5.snd.snd.fst s0.fst s0.snd.fst s0.snd.snd ∧ (EqA (AVal.bool false) (AVal.bool s0.fst) ∧ True) ∧ (EqR (Res.cells (44 :
  Nat) [AVal.int IntKind.i64 s, AVal.mapr (2 : Nat), AVal.mapr (3 : Nat)]) (Res.cells (44 : Nat) [AVal.int IntKind.i64 s, AVal.mapr (2 : Nat), AVal.mapr (3 : Nat)]) ∧ EqR
  (Res.vec (4 : Nat) s_5.snd.snd.snd) (Res.vec (4 : Nat) s_5.snd.snd.snd) ∧ EqR (Res.mapS IntKind.u64 (28 : Nat) s_5.snd.fst) (Res.mapS IntKind.u64 (28 : Nat) s0.snd.fst) ∧
  EqR (Res.mapS IntKind.u64 (4 : Nat) s_5.snd.snd.fst) (Res.mapS IntKind.u64 (4 : Nat) s0.snd.snd) ∧ True) ∧ True) (∃ (s0 : Bool × MapL × MapD), StepRel (List.getD l
  (Int.toNat (↑s_5.fst : Int)) ansD) s_5.snd.fst s_5.snd.snd.fst s0.fst s0.snd.fst s0.snd.snd ∧ (EqA (AVal.bool true) (AVal.bool s0.fst) ∧ True) ∧ (EqR (Res.cells (44 :
  Nat) [AVal.int IntKind.i64 s, AVal.mapr (2 : Nat), AVal.mapr (3 : Nat)]) (Res.cells (44 : Nat) [AVal.int IntKind.i64 s, AVal.mapr (2 : Nat), AVal.mapr (3 : Nat)]) ∧ EqR
  (Res.vec (4 : Nat) s_5.snd.snd.snd) (Res.vec (4 : Nat) s_5.snd.snd.snd) ∧ EqR (Res.mapS IntKind.u64 (28 : Nat) s_5.snd.fst) (Res.mapS IntKind.u64 (28 : Nat) s0.snd.fst) ∧
  EqR (Res.mapS IntKind.u64 (4 : Nat) s_5.snd.snd.fst) (Res.mapS IntKind.u64 (4 : Nat) s0.snd.snd) ∧ True) ∧ True)) (cnd ((List.getD l (Int.toNat (↑s_5.fst : Int))
  (Ytbadejabphdkiaa.K.dflt (tab (36 : TypeId)))).op.k == List.getD [(4 : Int), (5 : Int), (6 : Int)] (1 : Nat) (0 : Int) && ((List.getD l (Int.toNat (↑s_5.fst : Int))
  (Ytbadejabphdkiaa.K.dflt (tab (36 : TypeId)))).ret == (6 : Int) && true)) (cnd (!hasM s_5.snd.fst (List.getD l (Int.toNat (↑s_5.fst : Int)) (Ytbadejabphdkiaa.K.dflt (tab
  (36 : TypeId)))).t) (∃ (s0 : Bool × MapL × MapD), StepRel (List.getD l (Int.toNat (↑s_5.fst : Int)) ansD) s_5.snd.fst s_5.snd.snd.fst s0.fst s0.snd.fst s0.snd.snd ∧ (EqA
  (AVal.bool false) (AVal.bool s0.fst) ∧ True) ∧ (EqR (Res.cells (44 : Nat) [AVal.int IntKind.i64 s, AVal.mapr (2 : Nat), AVal.mapr (3 : Nat)]) (Res.cells (44 : Nat)
  [AVal.int IntKind.i64 s, AVal.mapr (2 : Nat), AVal.mapr (3 : Nat)]) ∧ EqR (Res.vec (4 : Nat) s_5.snd.snd.snd) (Res.vec (4 : Nat) s_5.snd.snd.snd) ∧ EqR (Res.mapS
  IntKind.u64 (28 : Nat) s_5.snd.fst) (Res.mapS IntKind.u64 (28 : Nat) s0.snd.fst) ∧ EqR (Res.mapS IntKind.u64 (4 : Nat) s_5.snd.snd.fst) (Res.mapS IntKind.u64 (4 : Nat)
  s0.snd.snd) ∧ True) ∧ True) (∃ (s0 : Bool × MapL × MapD), StepRel (List.getD l (Int.toNat (↑s_5.fst : Int)) ansD) s_5.snd.fst s_5.snd.snd.fst s0.fst s0.snd.fst s0.snd.snd
  ∧ (EqA (AVal.bool true) (AVal.bool s0.fst) ∧ True) ∧ (EqR (Res.cells (44 : Nat) [AVal.int IntKind.i64 s, AVal.mapr (2 : Nat), AVal.mapr (3 : Nat)]) (Res.cells (44 : Nat)
  [AVal.int IntKind.i64 s, AVal.mapr (2 : Nat), AVal.mapr (3 : Nat)]) ∧ EqR (Res.vec (4 : Nat) s_5.snd.snd.snd) (Res.vec (4 : Nat) s_5.snd.snd.snd) ∧ EqR (Res.mapS
  IntKind.u64 (28 : Nat) s_5.snd.fst) (Res.mapS IntKind.u64 (28 : Nat) s0.snd.fst) ∧ EqR (Res.mapS IntKind.u64 (4 : Nat) s_5.snd.snd.fst) (Res.mapS IntKind.u64 (4 : Nat)
  s0.snd.snd) ∧ True) ∧ True)) (cnd ((List.getD l (Int.toNat (↑s_5.fst : Int)) (Ytbadejabphdkiaa.K.dflt (tab (36 : TypeId)))).op.k == List.getD [(4 : Int), (5 : Int), (6 :
  Int)] (2 : Nat) (0 : Int) && ((List.getD l (Int.toNat (↑s_5.fst : Int)) (Ytbadejabphdkiaa.K.dflt (tab (36 : TypeId)))).ret == List.getD [(7 : Int), (8 : Int)] (0 : Nat)
  (0 : Int) && true)) (cnd (!!hasM s_5.snd.fst (List.getD l (Int.toNat (↑s_5.fst : Int)) (Ytbadejabphdkiaa.K.dflt (tab (36 : TypeId)))).t) (∃ (s0 : Bool × MapL × MapD),
  StepRel (List.getD l (Int.toNat (↑s_5.fst : Int)) ansD) s_5.snd.fst s_5.snd.snd.fst s0.fst s0.snd.fst s0.snd.snd ∧ (EqA (AVal.bool false) (AVal.bool s0.fst) ∧ True) ∧
  (EqR (Res.cells (44 : Nat) [AVal.int IntKind.i64 s, AVal.mapr (2 : Nat), AVal.mapr (3 : Nat)]) (Res.cells (44 : Nat) [AVal.int IntKind.i64 s, AVal.mapr (2 : Nat),
  AVal.mapr (3 : Nat)]) ∧ EqR (Res.vec (4 : Nat) s_5.snd.snd.snd) (Res.vec (4 : Nat) s_5.snd.snd.snd) ∧ EqR (Res.mapS IntKind.u64 (28 : Nat) s_5.snd.fst) (Res.mapS
  IntKind.u64 (28 : Nat) s0.snd.fst) ∧ EqR (Res.mapS IntKind.u64 (4 : Nat) s_5.snd.snd.fst) (Res.mapS IntKind.u64 (4 : Nat) s0.snd.snd) ∧ True) ∧ True) (∃ (s0 : Bool × MapL
  × MapD), StepRel (List.getD l (Int.toNat (↑s_5.fst : Int)) ansD) s_5.snd.fst s_5.snd.snd.fst s0.fst s0.snd.fst s0.snd.snd ∧ (EqA (AVal.bool true) (AVal.bool s0.fst) ∧
  True) ∧ (EqR (Res.cells (44 : Nat) [AVal.int IntKind.i64 s, AVal.mapr (2 : Nat), AVal.mapr (3 : Nat)]) (Res.cells (44 : Nat) [AVal.int IntKind.i64 s, AVal.mapr (2 : Nat),
  AVal.mapr (3 : Nat)]) ∧ EqR (Res.vec (4 : Nat) s_5.snd.snd.snd) (Res.vec (4 : Nat) s_5.snd.snd.snd) ∧ EqR (Res.mapS IntKind.u64 (28 : Nat) s_5.snd.fst) (Res.mapS
  IntKind.u64 (28 : Nat) s0.snd.fst) ∧ EqR (Res.mapS IntKind.u64 (4 : Nat) s_5.snd.snd.fst) (Res.mapS IntKind.u64 (4 : Nat) s0.snd.snd) ∧ True) ∧ True)) (cnd ((List.getD l
  (Int.toNat (↑s_5.fst : Int)) (Ytbadejabphdkiaa.K.dflt (tab (36 : TypeId)))).op.k == List.getD [(4 : Int), (5 : Int), (6 : Int)] (2 : Nat) (0 : Int) && ((List.getD l
  (Int.toNat (↑s_5.fst : Int)) (Ytbadejabphdkiaa.K.dflt (tab (36 : TypeId)))).ret == List.getD [(7 : Int), (8 : Int)] (1 : Nat) (0 : Int) && true)) (cnd (!!hasM s_5.snd.fst
  (List.getD l (Int.toNat (↑s_5.fst : Int)) (Ytbadejabphdkiaa.K.dflt (tab (36 : TypeId)))).t) (∃ (s0 : Bool × MapL × MapD), StepRel (List.getD l (Int.toNat (↑s_5.fst :
  Int)) ansD) s_5.snd.fst s_5.snd.snd.fst s0.fst s0.snd.fst s0.snd.snd ∧ (EqA (AVal.bool false) (AVal.bool s0.fst) ∧ True) ∧ (EqR (Res.cells (44 : Nat) [AVal.int
  IntKind.i64 s, AVal.mapr (2 : Nat), AVal.mapr (3 : Nat)]) (Res.cells (44 : Nat) [AVal.int IntKind.i64 s, AVal.mapr (2 : Nat), AVal.mapr (3 : Nat)]) ∧ EqR (Res.vec (4 :
  Nat) s_5.snd.snd.snd) (Res.vec (4 : Nat) s_5.snd.snd.snd) ∧ EqR (Res.mapS IntKind.u64 (28 : Nat) s_5.snd.fst) (Res.mapS IntKind.u64 (28 : Nat) s0.snd.fst) ∧ EqR (Res.mapS
  IntKind.u64 (4 : Nat) s_5.snd.snd.fst) (Res.mapS IntKind.u64 (4 : Nat) s0.snd.snd) ∧ True) ∧ True) (∃ (s0 : Bool × MapL × MapD), StepRel (List.getD l (Int.toNat (↑s_5.fst
  : Int)) ansD) s_5.snd.fst s_5.snd.snd.fst s0.fst s0.snd.fst s0.snd.snd ∧ (EqA (AVal.bool true) (AVal.bool s0.fst) ∧ True) ∧ (EqR (Res.cells (44 : Nat) [AVal.int
  IntKind.i64 s, AVal.mapr (2 : Nat), AVal.mapr (3 : Nat)]) (Res.cells (44 : Nat) [AVal.int IntKind.i64 s, AVal.mapr (2 : Nat), AVal.mapr (3 : Nat)]) ∧ EqR (Res.vec (4 :
  Nat) s_5.snd.snd.snd) (Res.vec (4 : Nat) s_5.snd.snd.snd) ∧ EqR (Res.mapS IntKind.u64 (28 : Nat) s_5.snd.fst) (Res.mapS IntKind.u64 (28 : Nat) s0.snd.fst) ∧ EqR (Res.mapS
  IntKind.u64 (4 : Nat) s_5.snd.snd.fst) (Res.mapS IntKind.u64 (4 : Nat) s0.snd.snd) ∧ True) ∧ True)) (∃ (s0 : Bool × MapL × MapD), StepRel (List.getD l (Int.toNat
  (↑s_5.fst : Int)) ansD) s_5.snd.fst s_5.snd.snd.fst s0.fst s0.snd.fst s0.snd.snd ∧ (EqA (AVal.bool false) (AVal.bool s0.fst) ∧ True) ∧ (EqR (Res.cells (44 : Nat)
  [AVal.int IntKind.i64 s, AVal.mapr (2 : Nat), AVal.mapr (3 : Nat)]) (Res.cells (44 : Nat) [AVal.int IntKind.i64 s, AVal.mapr (2 : Nat), AVal.mapr (3 : Nat)]) ∧ EqR
  (Res.vec (4 : Nat) s_5.snd.snd.snd) (Res.vec (4 : Nat) s_5.snd.snd.snd) ∧ EqR (Res.mapS IntKind.u64 (28 : Nat) s_5.snd.fst) (Res.mapS IntKind.u64 (28 : Nat) s0.snd.fst) ∧
  EqR (Res.mapS IntKind.u64 (4 : Nat) s_5.snd.snd.fst) (Res.mapS IntKind.u64 (4 : Nat) s0.snd.snd) ∧ True) ∧ True)))))))))))))))))))) ∧ ∀ (s_7 : Bool × MapL × MapD),
  StepRel (List.getD l (Int.toNat (↑s_5.fst : Int)) ansD) s_5.snd.fst s_5.snd.snd.fst s_7.fst s_7.snd.fst s_7.snd.snd → ((0 : Int) ≤ (↑s_5.fst : Int) ∧ (↑s_5.fst : Int) <
  (↑(List.length l) : Int)) ∧ cnd (hasM s_5.snd.fst (List.getD l (Int.toNat (↑s_5.fst : Int)) (Ytbadejabphdkiaa.K.dflt (tab (36 : TypeId)))).t == true) (cnd ((!hasM
  s_7.snd.fst (List.getD l (Int.toNat (↑s_5.fst : Int)) (Ytbadejabphdkiaa.K.dflt (tab (36 : TypeId)))).t) == true) (((0 : Int) ≤ (↑s_5.fst : Int) ∧ (↑s_5.fst : Int) <
  (↑(List.length l) : Int)) ∧ cnd (((List.getD l (Int.toNat (↑s_5.fst : Int)) (Ytbadejabphdkiaa.K.dflt (tab (36 : TypeId)))).op.k != (4 : Int)) == false) (((0 : Int) ≤
  (↑s_5.fst : Int) ∧ (↑s_5.fst : Int) < (↑(List.length l) : Int)) ∧ cnd (((List.getD l (Int.toNat (↑s_5.fst : Int)) (Ytbadejabphdkiaa.K.dflt (tab (36 : TypeId)))).ret != (0
  : Int)) == false) (cnd ((!hasM s_5.snd.fst (List.getD l (Int.toNat (↑s_5.fst : Int)) (Ytbadejabphdkiaa.K.dflt (tab (36 : TypeId)))).t) == true) (cnd (hasM s_7.snd.fst
  (List.getD l (Int.toNat (↑s_5.fst : Int)) (Ytbadejabphdkiaa.K.dflt (tab (36 : TypeId)))).t == true) (((0 : Int) ≤ (↑s_5.fst : Int) ∧ (↑s_5.fst : Int) < (↑(List.length l)
  : Int)) ∧ cnd (((List.getD l (Int.toNat (↑s_5.fst : Int)) (Ytbadejabphdkiaa.K.dflt (tab (36 : TypeId)))).op.k != (3 : Int)) == false) (cnd (toldM s_5.snd.fst
  s_5.snd.snd.fst (List.getD l (Int.toNat (↑s_5.fst : Int)) ansD).t == false) (cnd (toldM s_5.snd.fst s_5.snd.snd.fst (List.getD l (Int.toNat (↑s_5.fst : Int)) ansD).t ==
  true) (((0 : Int) ≤ (↑s_5.fst : Int) ∧ (↑s_5.fst : Int) < (↑(List.length l) : Int)) ∧ cnd (hasM s_7.snd.fst (List.getD l (Int.toNat (↑s_5.fst : Int))
  (Ytbadejabphdkiaa.K.dflt (tab (36 : TypeId)))).t == false) (cnd ((!getM s_7.snd.snd (List.getD l (Int.toNat (↑s_5.fst : Int)) (Ytbadejabphdkiaa.K.dflt (tab (36 :
  TypeId)))).t (Ytbadejabphdkiaa.K.dflt (tab (4 : TypeId)))) == false) (cnd ((!s_7.fst) == true) (cnd (!hasM s_5.snd.fst (List.getD l (Int.toNat (↑s_5.fst : Int))
  (Ytbadejabphdkiaa.K.dflt (tab (36 : TypeId)))).t == hasM s_7.snd.fst (List.getD l (Int.toNat (↑s_5.fst : Int)) (Ytbadejabphdkiaa.K.dflt (tab (36 : TypeId)))).t) (K
  (AVal.bool false)) (∃ (s0 : Unit), True ∧ True ∧ (EqR (Res.cells (44 : Nat) [AVal.int IntKind.i64 s, AVal.mapr (2 : Nat), AVal.mapr (3 : Nat)]) (Res.cells (44 : Nat)
  [AVal.int IntKind.i64 s, AVal.mapr (2 : Nat), AVal.mapr (3 : Nat)]) ∧ EqR (Res.vec (4 : Nat) s_5.snd.snd.snd) (Res.vec (4 : Nat) s_5.snd.snd.snd) ∧ EqR (Res.mapS
  IntKind.u64 (28 : Nat) s_7.snd.fst) (Res.mapS IntKind.u64 (28 : Nat) s_7.snd.fst) ∧ EqR (Res.mapS IntKind.u64 (4 : Nat) s_7.snd.snd) (Res.mapS IntKind.u64 (4 : Nat)
  s_7.snd.snd) ∧ True) ∧ True)) (∃ (s0 : Unit), True ∧ True ∧ (EqR (Res.cells (44 : Nat) [AVal.int IntKind.i64 s, AVal.mapr (2 : Nat), AVal.mapr (3 : Nat)]) (Res.cells (44
  : Nat) [AVal.int IntKind.i64 s, AVal.mapr (2 : Nat), AVal.mapr (3 : Nat)]) ∧ EqR (Res.vec (4 : Nat) s_5.snd.snd.snd) (Res.vec (4 : Nat) s_5.snd.snd.snd) ∧ EqR (Res.mapS
  IntKind.u64 (28 : Nat) s_7.snd.fst) (Res.mapS IntKind.u64 (28 : Nat) s_7.snd.fst) ∧ EqR (Res.mapS IntKind.u64 (4 : Nat) s_7.snd.snd) (Res.mapS IntKind.u64 (4 : Nat)
  s_7.snd.snd) ∧ True) ∧ True)) (K (AVal.bool false))) (cnd ((!s_7.fst) == true) (cnd (!hasM s_5.snd.fst (List.getD l (Int.toNat (↑s_5.fst : Int)) (Ytbadejabphdkiaa.K.dflt
  (tab (36 : TypeId)))).t == hasM s_7.snd.fst (List.getD l (Int.toNat (↑s_5.fst : Int)) (Ytbadejabphdkiaa.K.dflt (tab (36 : TypeId)))).t) (K (AVal.bool false)) (∃ (s0 :
  Unit), True ∧ True ∧ (EqR (Res.cells (44 : Nat) [AVal.int IntKind.i64 s, AVal.mapr (2 : Nat), AVal.mapr (3 : Nat)]) (Res.cells (44 : Nat) [AVal.int IntKind.i64 s,
  AVal.mapr (2 : Nat), AVal.mapr (3 : Nat)]) ∧ EqR (Res.vec (4 : Nat) s_5.snd.snd.snd) (Res.vec (4 : Nat) s_5.snd.snd.snd) ∧ EqR (Res.mapS IntKind.u64 (28 : Nat)
  s_7.snd.fst) (Res.mapS IntKind.u64 (28 : Nat) s_7.snd.fst) ∧ EqR (Res.mapS IntKind.u64 (4 : Nat) s_7.snd.snd) (Res.mapS IntKind.u64 (4 : Nat) s_7.snd.snd) ∧ True) ∧
  True)) (∃ (s0 : Unit), True ∧ True ∧ (EqR (Res.cells (44 : Nat) [AVal.int IntKind.i64 s, AVal.mapr (2 : Nat), AVal.mapr (3 : Nat)]) (Res.cells (44 : Nat) [AVal.int
  IntKind.i64 s, AVal.mapr (2 : Nat), AVal.mapr (3 : Nat)]) ∧ EqR (Res.vec (4 : Nat) s_5.snd.snd.snd) (Res.vec (4 : Nat) s_5.snd.snd.snd) ∧ EqR (Res.mapS IntKind.u64 (28 :
  Nat) s_7.snd.fst) (Res.mapS IntKind.u64 (28 : Nat) s_7.snd.fst) ∧ EqR (Res.mapS IntKind.u64 (4 : Nat) s_7.snd.snd) (Res.mapS IntKind.u64 (4 : Nat) s_7.snd.snd) ∧ True) ∧
  True))) (cnd ((!s_7.fst) == true) (cnd (!hasM s_5.snd.fst (List.getD l (Int.toNat (↑s_5.fst : Int)) (Ytbadejabphdkiaa.K.dflt (tab (36 : TypeId)))).t == hasM s_7.snd.fst
  (List.getD l (Int.toNat (↑s_5.fst : Int)) (Ytbadejabphdkiaa.K.dflt (tab (36 : TypeId)))).t) (K (AVal.bool false)) (∃ (s0 : Unit), True ∧ True ∧ (EqR (Res.cells (44 : Nat)
  [AVal.int IntKind.i64 s, AVal.mapr (2 : Nat), AVal.mapr (3 : Nat)]) (Res.cells (44 : Nat) [AVal.int IntKind.i64 s, AVal.mapr (2 : Nat), AVal.mapr (3 : Nat)]) ∧ EqR
  (Res.vec (4 : Nat) s_5.snd.snd.snd) (Res.vec (4 : Nat) s_5.snd.snd.snd) ∧ EqR (Res.mapS IntKind.u64 (28 : Nat) s_7.snd.fst) (Res.mapS IntKind.u64 (28 : Nat) s_7.snd.fst)
  ∧ EqR (Res.mapS IntKind.u64 (4 : Nat) s_7.snd.snd) (Res.mapS IntKind.u64 (4 : Nat) s_7.snd.snd) ∧ True) ∧ True)) (∃ (s0 : Unit), True ∧ True ∧ (EqR (Res.cells (44 : Nat)
  [AVal.int IntKind.i64 s, AVal.mapr (2 : Nat), AVal.mapr (3 : Nat)]) (Res.cells (44 : Nat) [AVal.int IntKind.i64 s, AVal.mapr (2 : Nat), AVal.mapr (3 : Nat)]) ∧ EqR
  (Res.vec (4 : Nat) s_5.snd.snd.snd) (Res.vec (4 : Nat) s_5.snd.snd.snd) ∧ EqR (Res.mapS IntKind.u64 (28 : Nat) s_7.snd.fst) (Res.mapS IntKind.u64 (28 : Nat) s_7.snd.fst)
  ∧ EqR (Res.mapS IntKind.u64 (4 : Nat) s_7.snd.snd) (Res.mapS IntKind.u64 (4 : Nat) s_7.snd.snd) ∧ True) ∧ True))) (K (AVal.bool false))) (K (AVal.bool false))) (cnd
  (toldM s_5.snd.fst s_5.snd.snd.fst (List.getD l (Int.toNat (↑s_5.fst : Int)) ansD).t == true) (((0 : Int) ≤ (↑s_5.fst : Int) ∧ (↑s_5.fst : Int) < (↑(List.length l) :
  Int)) ∧ cnd (hasM s_7.snd.fst (List.getD l (Int.toNat (↑s_5.fst : Int)) (Ytbadejabphdkiaa.K.dflt (tab (36 : TypeId)))).t == false) (cnd ((!getM s_7.snd.snd (List.getD l
  (Int.toNat (↑s_5.fst : Int)) (Ytbadejabphdkiaa.K.dflt (tab (36 : TypeId)))).t (Ytbadejabphdkiaa.K.dflt (tab (4 : TypeId)))) == false) (cnd ((!s_7.fst) == true) (cnd
  (!hasM s_5.snd.fst (List.getD l (Int.toNat (↑s_5.fst : Int)) (Ytbadejabphdkiaa.K.dflt (tab (36 : TypeId)))).t == hasM s_7.snd.fst (List.getD l (Int.toNat (↑s_5.fst :
  Int)) (Ytbadejabphdkiaa.K.dflt (tab (36 : TypeId)))).t) (K (AVal.bool false)) (∃ (s0 : Unit), True ∧ True ∧ (EqR (Res.cells (44 : Nat) [AVal.int IntKind.i64 s, AVal.mapr
  (2 : Nat), AVal.mapr (3 : Nat)]) (Res.cells (44 : Nat) [AVal.int IntKind.i64 s, AVal.mapr (2 : Nat), AVal.mapr (3 : Nat)]) ∧ EqR (Res.vec (4 : Nat) s_5.snd.snd.snd)
  (Res.vec (4 : Nat) s_5.snd.snd.snd) ∧ EqR (Res.mapS IntKind.u64 (28 : Nat) s_7.snd.fst) (Res.mapS IntKind.u64 (28 : Nat) s_7.snd.fst) ∧ EqR (Res.mapS IntKind.u64 (4 :
  Nat) s_7.snd.snd) (Res.mapS IntKind.u64 (4 : Nat) s_7.snd.snd) ∧ True) ∧ True)) (∃ (s0 : Unit), True ∧ True ∧ (EqR (Res.cells (44 : Nat) [AVal.int IntKind.i64 s,
  AVal.mapr (2 : Nat), AVal.mapr (3 : Nat)]) (Res.cells (44 : Nat) [AVal.int IntKind.i64 s, AVal.mapr (2 : Nat), AVal.mapr (3 : Nat)]) ∧ EqR (Res.vec (4 : Nat)
  s_5.snd.snd.snd) (Res.vec (4 : Nat) s_5.snd.snd.snd) ∧ EqR (Res.mapS IntKind.u64 (28 : Nat) s_7.snd.fst) (Res.mapS IntKind.u64 (28 : Nat) s_7.snd.fst) ∧ EqR (Res.mapS
  IntKind.u64 (4 : Nat) s_7.snd.snd) (Res.mapS IntKind.u64 (4 : Nat) s_7.snd.snd) ∧ True) ∧ True)) (K (AVal.bool false))) (cnd ((!s_7.fst) == true) (cnd (!hasM s_5.snd.fst
  (List.getD l (Int.toNat (↑s_5.fst : Int)) (Ytbadejabphdkiaa.K.dflt (tab (36 : TypeId)))).t == hasM s_7.snd.fst (List.getD l (Int.toNat (↑s_5.fst : Int))
  (Ytbadejabphdkiaa.K.dflt (tab (36 : TypeId)))).t) (K (AVal.bool false)) (∃ (s0 : Unit), True ∧ True ∧ (EqR (Res.cells (44 : Nat) [AVal.int IntKind.i64 s, AVal.mapr (2 :
  Nat), AVal.mapr (3 : Nat)]) (Res.cells (44 : Nat) [AVal.int IntKind.i64 s, AVal.mapr (2 : Nat), AVal.mapr (3 : Nat)]) ∧ EqR (Res.vec (4 : Nat) s_5.snd.snd.snd) (Res.vec
  (4 : Nat) s_5.snd.snd.snd) ∧ EqR (Res.mapS IntKind.u64 (28 : Nat) s_7.snd.fst) (Res.mapS IntKind.u64 (28 : Nat) s_7.snd.fst) ∧ EqR (Res.mapS IntKind.u64 (4 : Nat)
  s_7.snd.snd) (Res.mapS IntKind.u64 (4 : Nat) s_7.snd.snd) ∧ True) ∧ True)) (∃ (s0 : Unit), True ∧ True ∧ (EqR (Res.cells (44 : Nat) [AVal.int IntKind.i64 s, AVal.mapr (2
  : Nat), AVal.mapr (3 : Nat)]) (Res.cells (44 : Nat) [AVal.int IntKind.i64 s, AVal.mapr (2 : Nat), AVal.mapr (3 : Nat)]) ∧ EqR (Res.vec (4 : Nat) s_5.snd.snd.snd) (Res.vec
  (4 : Nat) s_5.snd.snd.snd) ∧ EqR (Res.mapS IntKind.u64 (28 : Nat) s_7.snd.fst) (Res.mapS IntKind.u64 (28 : Nat) s_7.snd.fst) ∧ EqR (Res.mapS IntKind.u64 (4 : Nat)
  s_7.snd.snd) (Res.mapS IntKind.u64 (4 : Nat) s_7.snd.snd) ∧ True) ∧ True))) (cnd ((!s_7.fst) == true) (cnd (!hasM s_5.snd.fst (List.getD l (Int.toNat (↑s_5.fst : Int))
  (Ytbadejabphdkiaa.K.dflt (tab (36 : TypeId)))).t == hasM s_7.snd.fst (List.getD l (Int.toNat (↑s_5.fst : Int)) (Ytbadejabphdkiaa.K.dflt (tab (36 : TypeId)))).t) (K
  (AVal.bool false)) (∃ (s0 : Unit), True ∧ True ∧ (EqR (Res.cells (44 : Nat) [AVal.int IntKind.i64 s, AVal.mapr (2 : Nat), AVal.mapr (3 : Nat)]) (Res.cells (44 : Nat)
  [AVal.int IntKind.i64 s, AVal.mapr (2 : Nat), AVal.mapr (3 : Nat)]) ∧ EqR (Res.vec (4 : Nat) s_5.snd.snd.snd) (Res.vec (4 : Nat) s_5.snd.snd.snd) ∧ EqR (Res.mapS
  IntKind.u64 (28 : Nat) s_7.snd.fst) (Res.mapS IntKind.u64 (28 : Nat) s_7.snd.fst) ∧ EqR (Res.mapS IntKind.u64 (4 : Nat) s_7.snd.snd) (Res.mapS IntKind.u64 (4 : Nat)
  s_7.snd.snd) ∧ True) ∧ True)) (∃ (s0 : Unit), True ∧ True ∧ (EqR (Res.cells (44 : Nat) [AVal.int IntKind.i64 s, AVal.mapr (2 : Nat), AVal.mapr (3 : Nat)]) (Res.cells (44
  : Nat) [AVal.int IntKind.i64 s, AVal.mapr (2 : Nat), AVal.mapr (3 : Nat)]) ∧ EqR (Res.vec (4 : Nat) s_5.snd.snd.snd) (Res.vec (4 : Nat) s_5.snd.snd.snd) ∧ EqR (Res.mapS
  IntKind.u64 (28 : Nat) s_7.snd.fst) (Res.mapS IntKind.u64 (28 : Nat) s_7.snd.fst) ∧ EqR (Res.mapS IntKind.u64 (4 : Nat) s_7.snd.snd) (Res.mapS IntKind.u64 (4 : Nat)
  s_7.snd.snd) ∧ True) ∧ True)))) (cnd (toldM s_5.snd.fst s_5.snd.snd.fst (List.getD l (Int.toNat (↑s_5.fst : Int)) ansD).t == true) (((0 : Int) ≤ (↑s_5.fst : Int) ∧
  (↑s_5.fst : Int) < (↑(List.length l) : Int)) ∧ cnd (hasM s_7.snd.fst (List.getD l (Int.toNat (↑s_5.fst : Int)) (Ytbadejabphdkiaa.K.dflt (tab (36 : TypeId)))).t == false)
  (cnd ((!getM s_7.snd.snd (List.getD l (Int.toNat (↑s_5.fst : Int)) (Ytbadejabphdkiaa.K.dflt (tab (36 : TypeId)))).t (Ytbadejabphdkiaa.K.dflt (tab (4 : TypeId)))) ==
  false) (cnd ((!s_7.fst) == true) (cnd (!hasM s_5.snd.fst (List.getD l (Int.toNat (↑s_5.fst : Int)) (Ytbadejabphdkiaa.K.dflt (tab (36 : TypeId)))).t == hasM s_7.snd.fst
  (List.getD l (Int.toNat (↑s_5.fst : Int)) (Ytbadejabphdkiaa.K.dflt (tab (36 : TypeId)))).t) (K (AVal.bool false)) (∃ (s0 : Unit), True ∧ True ∧ (EqR (Res.cells (44 : Nat)
  [AVal.int IntKind.i64 s, AVal.mapr (2 : Nat), AVal.mapr (3 : Nat)]) (Res.cells (44 : Nat) [AVal.int IntKind.i64 s, AVal.mapr (2 : Nat), AVal.mapr (3 : Nat)]) ∧ EqR
  (Res.vec (4 : Nat) s_5.snd.snd.snd) (Res.vec (4 : Nat) s_5.snd.snd.snd) ∧ EqR (Res.mapS IntKind.u64 (28 : Nat) s_7.snd.fst) (Res.mapS IntKind.u64 (28 : Nat) s_7.snd.fst)
  ∧ EqR (Res.mapS IntKind.u64 (4 : Nat) s_7.snd.snd) (Res.mapS IntKind.u64 (4 : Nat) s_7.snd.snd) ∧ True) ∧ True)) (∃ (s0 : Unit), True ∧ True ∧ (EqR (Res.cells (44 : Nat)
  [AVal.int IntKind.i64 s, AVal.mapr (2 : Nat), AVal.mapr (3 : Nat)]) (Res.cells (44 : Nat) [AVal.int IntKind.i64 s, AVal.mapr (2 : Nat), AVal.mapr (3 : Nat)]) ∧ EqR
  (Res.vec (4 : Nat) s_5.snd.snd.snd) (Res.vec (4 : Nat) s_5.snd.snd.snd) ∧ EqR (Res.mapS IntKind.u64 (28 : Nat) s_7.snd.fst) (Res.mapS IntKind.u64 (28 : Nat) s_7.snd.fst)
  ∧ EqR (Res.mapS IntKind.u64 (4 : Nat) s_7.snd.snd) (Res.mapS IntKind.u64 (4 : Nat) s_7.snd.snd) ∧ True) ∧ True)) (K (AVal.bool false))) (cnd ((!s_7.fst) == true) (cnd
  (!hasM s_5.snd.fst (List.getD l (Int.toNat (↑s_5.fst : Int)) (Ytbadejabphdkiaa.K.dflt (tab (36 : TypeId)))).t == hasM s_7.snd.fst (List.getD l (Int.toNat (↑s_5.fst :
  Int)) (Ytbadejabphdkiaa.K.dflt (tab (36 : TypeId)))).t) (K (AVal.bool false)) (∃ (s0 : Unit), True ∧ True ∧ (EqR (Res.cells (44 : Nat) [AVal.int IntKind.i64 s, AVal.mapr
  (2 : Nat), AVal.mapr (3 : Nat)]) (Res.cells (44 : Nat) [AVal.int IntKind.i64 s, AVal.mapr (2 : Nat), AVal.mapr (3 : Nat)]) ∧ EqR (Res.vec (4 : Nat) s_5.snd.snd.snd)
  (Res.vec (4 : Nat) s_5.snd.snd.snd) ∧ EqR (Res.mapS IntKind.u64 (28 : Nat) s_7.snd.fst) (Res.mapS IntKind.u64 (28 : Nat) s_7.snd.fst) ∧ EqR (Res.mapS IntKind.u64 (4 :
  Nat) s_7.snd.snd) (Res.mapS IntKind.u64 (4 : Nat) s_7.snd.snd) ∧ True) ∧ True)) (∃ (s0 : Unit), True ∧ True ∧ (EqR (Res.cells (44 : Nat) [AVal.int IntKind.i64 s,
  AVal.mapr (2 : Nat), AVal.mapr (3 : Nat)]) (Res.cells (44 : Nat) [AVal.int IntKind.i64 s, AVal.mapr (2 : Nat), AVal.mapr (3 : Nat)]) ∧ EqR (Res.vec (4 : Nat)
  s_5.snd.snd.snd) (Res.vec (4 : Nat) s_5.snd.snd.snd) ∧ EqR (Res.mapS IntKind.u64 (28 : Nat) s_7.snd.fst) (Res.mapS IntKind.u64 (28 : Nat) s_7.snd.fst) ∧ EqR (Res.mapS
  IntKind.u64 (4 : Nat) s_7.snd.snd) (Res.mapS IntKind.u64 (4 : Nat) s_7.snd.snd) ∧ True) ∧ True))) (cnd ((!s_7.fst) == true) (cnd (!hasM s_5.snd.fst (List.getD l
  (Int.toNat (↑s_5.fst : Int)) (Ytbadejabphdkiaa.K.dflt (tab (36 : TypeId)))).t == hasM s_7.snd.fst (List.getD l (Int.toNat (↑s_5.fst : Int)) (Ytbadejabphdkiaa.K.dflt (tab
  (36 : TypeId)))).t) (K (AVal.bool false)) (∃ (s0 : Unit), True ∧ True ∧ (EqR (Res.cells (44 : Nat) [AVal.int IntKind.i64 s, AVal.mapr (2 : Nat), AVal.mapr (3 : Nat)])
  (Res.cells (44 : Nat) [AVal.int IntKind.i64 s, AVal.mapr (2 : Nat), AVal.mapr (3 : Nat)]) ∧ EqR (Res.vec (4 : Nat) s_5.snd.snd.snd) (Res.vec (4 : Nat) s_5.snd.snd.snd) ∧
  EqR (Res.mapS IntKind.u64 (28 : Nat) s_7.snd.fst) (Res.mapS IntKind.u64 (28 : Nat) s_7.snd.fst) ∧ EqR (Res.mapS IntKind.u64 (4 : Nat) s_7.snd.snd) (Res.mapS IntKind.u64
  (4 : Nat) s_7.snd.snd) ∧ True) ∧ True)) (∃ (s0 : Unit), True ∧ True ∧ (EqR (Res.cells (44 : Nat) [AVal.int IntKind.i64 s, AVal.mapr (2 : Nat), AVal.mapr (3 : Nat)])
  (Res.cells (44 : Nat) [AVal.int IntKind.i64 s, AVal.mapr (2 : Nat), AVal.mapr (3 : Nat)]) ∧ EqR (Res.vec (4 : Nat) s_5.snd.snd.snd) (Res.vec (4 : Nat) s_5.snd.snd.snd) ∧
  EqR (Res.mapS IntKind.u64 (28 : Nat) s_7.snd.fst) (Res.mapS IntKind.u64 (28 : Nat) s_7.snd.fst) ∧ EqR (Res.mapS IntKind.u64 (4 : Nat) s_7.snd.snd) (Res.mapS IntKind.u64
  (4 : Nat) s_7.snd.snd) ∧ True) ∧ True)))) (K (AVal.bool false))) (K (AVal.bool false))) (cnd ((!hasM s_5.snd.fst (List.getD l (Int.toNat (↑s_5.fst : Int))
  (Ytbadejabphdkiaa.K.dflt (tab (36 : TypeId)))).t) == true) (cnd (hasM s_7.snd.fst (List.getD l (Int.toNat (↑s_5.fst : Int)) (Ytbadejabphdkiaa.K.dflt (tab (36 :
  TypeId)))).t == true) (((0 : Int) ≤ (↑s_5.fst : Int) ∧ (↑s_5.fst : Int) < (↑(List.length l) : Int)) ∧ cnd (((List.getD l (Int.toNat (↑s_5.fst : Int))
  (Ytbadejabphdkiaa.K.dflt (tab (36 : TypeId)))).op.k != (3 : Int)) == false) (cnd (toldM s_5.snd.fst s_5.snd.snd.fst (List.getD l (Int.toNat (↑s_5.fst : Int)) ansD).t ==
  false) (cnd (toldM s_5.snd.fst s_5.snd.snd.fst (List.getD l (Int.toNat (↑s_5.fst : Int)) ansD).t == true) (((0 : Int) ≤ (↑s_5.fst : Int) ∧ (↑s_5.fst : Int) <
  (↑(List.length l) : Int)) ∧ cnd (hasM s_7.snd.fst (List.getD l (Int.toNat (↑s_5.fst : Int)) (Ytbadejabphdkiaa.K.dflt (tab (36 : TypeId)))).t == false) (cnd ((!getM
  s_7.snd.snd (List.getD l (Int.toNat (↑s_5.fst : Int)) (Ytbadejabphdkiaa.K.dflt (tab (36 : TypeId)))).t (Ytbadejabphdkiaa.K.dflt (tab (4 : TypeId)))) == false) (cnd
  ((!s_7.fst) == true) (cnd (!hasM s_5.snd.fst (List.getD l (Int.toNat (↑s_5.fst : Int)) (Ytbadejabphdkiaa.K.dflt (tab (36 : TypeId)))).t == hasM s_7.snd.fst (List.getD l
  (Int.toNat (↑s_5.fst : Int)) (Ytbadejabphdkiaa.K.dflt (tab (36 : TypeId)))).t) (K (AVal.bool false)) (∃ (s0 : Unit), True ∧ True ∧ (EqR (Res.cells (44 : Nat) [AVal.int
  IntKind.i64 s, AVal.mapr (2 : Nat), AVal.mapr (3 : Nat)]) (Res.cells (44 : Nat) [AVal.int IntKind.i64 s, AVal.mapr (2 : Nat), AVal.mapr (3 : Nat)]) ∧ EqR (Res.vec (4 :
  Nat) s_5.snd.snd.snd) (Res.vec (4 : Nat) s_5.snd.snd.snd) ∧ EqR (Res.mapS IntKind.u64 (28 : Nat) s_7.snd.fst) (Res.mapS IntKind.u64 (28 : Nat) s_7.snd.fst) ∧ EqR
  (Res.mapS IntKind.u64 (4 : Nat) s_7.snd.snd) (Res.mapS IntKind.u64 (4 : Nat) s_7.snd.snd) ∧ True) ∧ True)) (∃ (s0 : Unit), True ∧ True ∧ (EqR (Res.cells (44 : Nat)
  [AVal.int IntKind.i64 s, AVal.mapr (2 : Nat), AVal.mapr (3 : Nat)]) (Res.cells (44 : Nat) [AVal.int IntKind.i64 s, AVal.mapr (2 : Nat), AVal.mapr (3 : Nat)]) ∧ EqR
  (Res.vec (4 : Nat) s_5.snd.snd.snd) (Res.vec (4 : Nat) s_5.snd.snd.snd) ∧ EqR (Res.mapS IntKind.u64 (28 : Nat) s_7.snd.fst) (Res.mapS IntKind.u64 (28 : Nat) s_7.snd.fst)
  ∧ EqR (Res.mapS IntKind.u64 (4 : Nat) s_7.snd.snd) (Res.mapS IntKind.u64 (4 : Nat) s_7.snd.snd) ∧ True) ∧ True)) (K (AVal.bool false))) (cnd ((!s_7.fst) == true) (cnd
  (!hasM s_5.snd.fst (List.getD l (Int.toNat (↑s_5.fst : Int)) (Ytbadejabphdkiaa.K.dflt (tab (36 : TypeId)))).t == hasM s_7.snd.fst (List.getD l (Int.toNat (↑s_5.fst :
  Int)) (Ytbadejabphdkiaa.K.dflt (tab (36 : TypeId)))).t) (K (AVal.bool false)) (∃ (s0 : Unit), True ∧ True ∧ (EqR (Res.cells (44 : Nat) [AVal.int IntKind.i64 s, AVal.mapr
  (2 : Nat), AVal.mapr (3 : Nat)]) (Res.cells (44 : Nat) [AVal.int IntKind.i64 s, AVal.mapr (2 : Nat), AVal.mapr (3 : Nat)]) ∧ EqR (Res.vec (4 : Nat) s_5.snd.snd.snd)
  (Res.vec (4 : Nat) s_5.snd.snd.snd) ∧ EqR (Res.mapS IntKind.u64 (28 : Nat) s_7.snd.fst) (Res.mapS IntKind.u64 (28 : Nat) s_7.snd.fst) ∧ EqR (Res.mapS IntKind.u64 (4 :
  Nat) s_7.snd.snd) (Res.mapS IntKind.u64 (4 : Nat) s_7.snd.snd) ∧ True) ∧ True)) (∃ (s0 : Unit), True ∧ True ∧ (EqR (Res.cells (44 : Nat) [AVal.int IntKind.i64 s,
  AVal.mapr (2 : Nat), AVal.mapr (3 : Nat)]) (Res.cells (44 : Nat) [AVal.int IntKind.i64 s, AVal.mapr (2 : Nat), AVal.mapr (3 : Nat)]) ∧ EqR (Res.vec (4 : Nat)
  s_5.snd.snd.snd) (Res.vec (4 : Nat) s_5.snd.snd.snd) ∧ EqR (Res.mapS IntKind.u64 (28 : Nat) s_7.snd.fst) (Res.mapS IntKind.u64 (28 : Nat) s_7.snd.fst) ∧ EqR (Res.mapS
  IntKind.u64 (4 : Nat) s_7.snd.snd) (Res.mapS IntKind.u64 (4 : Nat) s_7.snd.snd) ∧ True) ∧ True))) (cnd ((!s_7.fst) == true) (cnd (!hasM s_5.snd.fst (List.getD l
  (Int.toNat (↑s_5.fst : Int)) (Ytbadejabphdkiaa.K.dflt (tab (36 : TypeId)))).t == hasM s_7.snd.fst (List.getD l (Int.toNat (↑s_5.fst : Int)) (Ytbadejabphdkiaa.K.dflt (tab
  (36 : TypeId)))).t) (K (AVal.bool false)) (∃ (s0 : Unit), True ∧ True ∧ (EqR (Res.cells (44 : Nat) [AVal.int IntKind.i64 s, AVal.mapr (2 : Nat), AVal.mapr (3 : Nat)])
  (Res.cells (44 : Nat) [AVal.int IntKind.i64 s, AVal.mapr (2 : Nat), AVal.mapr (3 : Nat)]) ∧ EqR (Res.vec (4 : Nat) s_5.snd.snd.snd) (Res.vec (4 : Nat) s_5.snd.snd.snd) ∧
  EqR (Res.mapS IntKind.u64 (28 : Nat) s_7.snd.fst) (Res.mapS IntKind.u64 (28 : Nat) s_7.snd.fst) ∧ EqR (Res.mapS IntKind.u64 (4 : Nat) s_7.snd.snd) (Res.mapS IntKind.u64
  (4 : Nat) s_7.snd.snd) ∧ True) ∧ True)) (∃ (s0 : Unit), True ∧ True ∧ (EqR (Res.cells (44 : Nat) [AVal.int IntKind.i64 s, AVal.mapr (2 : Nat), AVal.mapr (3 : Nat)])
  (Res.cells (44 : Nat) [AVal.int IntKind.i64 s, AVal.mapr (2 : Nat), AVal.mapr (3 : Nat)]) ∧ EqR (Res.vec (4 : Nat) s_5.snd.snd.snd) (Res.vec (4 : Nat) s_5.snd.snd.snd) ∧
  EqR (Res.mapS IntKind.u64 (28 : Nat) s_7.snd.fst) (Res.mapS IntKind.u64 (28 : Nat) s_7.snd.fst) ∧ EqR (Res.mapS IntKind.u64 (4 : Nat) s_7.snd.snd) (Res.mapS IntKind.u64
  (4 : Nat) s_7.snd.snd) ∧ True) ∧ True))) (K (AVal.bool false))) (K (AVal.bool false))) (cnd (toldM s_5.snd.fst s_5.snd.snd.fst (List.getD l (Int.toNat (↑s_5.fst : Int))
  ansD).t == true) (((0 : Int) ≤ (↑s_5.fst : Int) ∧ (↑s_5.fst : Int) < (↑(List.length l) : Int)) ∧ cnd (hasM s_7.snd.fst (List.getD l (Int.toNat (↑s_5.fst : Int))
  (Ytbadejabphdkiaa.K.dflt (tab (36 : TypeId)))).t == false) (cnd ((!getM s_7.snd.snd (List.getD l (Int.toNat (↑s_5.fst : Int)) (Ytbadejabphdkiaa.K.dflt (tab (36 :
  TypeId)))).t (Ytbadejabphdkiaa.K.dflt (tab (4 : TypeId)))) == false) (cnd ((!s_7.fst) == true) (cnd (!hasM s_5.snd.fst (List.getD l (Int.toNat (↑s_5.fst : Int))
  (Ytbadejabphdkiaa.K.dflt (tab (36 : TypeId)))).t == hasM s_7.snd.fst (List.getD l (Int.toNat (↑s_5.fst : Int)) (Ytbadejabphdkiaa.K.dflt (tab (36 : TypeId)))).t) (K
  (AVal.bool false)) (∃ (s0 : Unit), True ∧ True ∧ (EqR (Res.cells (44 : Nat) [AVal.int IntKind.i64 s, AVal.mapr (2 : Nat), AVal.mapr (3 : Nat)]) (Res.cells (44 : Nat)
  [AVal.int IntKind.i64 s, AVal.mapr (2 : Nat), AVal.mapr (3 : Nat)]) ∧ EqR (Res.vec (4 : Nat) s_5.snd.snd.snd) (Res.vec (4 : Nat) s_5.snd.snd.snd) ∧ EqR (Res.mapS
  IntKind.u64 (28 : Nat) s_7.snd.fst) (Res.mapS IntKind.u64 (28 : Nat) s_7.snd.fst) ∧ EqR (Res.mapS IntKind.u64 (4 : Nat) s_7.snd.snd) (Res.mapS IntKind.u64 (4 : Nat)
  s_7.snd.snd) ∧ True) ∧ True)) (∃ (s0 : Unit), True ∧ True ∧ (EqR (Res.cells (44 : Nat) [AVal.int IntKind.i64 s, AVal.mapr (2 : Nat), AVal.mapr (3 : Nat)]) (Res.cells (44
  : Nat) [AVal.int IntKind.i64 s, AVal.mapr (2 : Nat), AVal.mapr (3 : Nat)]) ∧ EqR (Res.vec (4 : Nat) s_5.snd.snd.snd) (Res.vec (4 : Nat) s_5.snd.snd.snd) ∧ EqR (Res.mapS
  IntKind.u64 (28 : Nat) s_7.snd.fst) (Res.mapS IntKind.u64 (28 : Nat) s_7.snd.fst) ∧ EqR (Res.mapS IntKind.u64 (4 : Nat) s_7.snd.snd) (Res.mapS IntKind.u64 (4 : Nat)
  s_7.snd.snd) ∧ True) ∧ True)) (K (AVal.bool false))) (cnd ((!s_7.fst) == true) (cnd (!hasM s_5.snd.fst (List.getD l (Int.toNat (↑s_5.fst : Int)) (Ytbadejabphdkiaa.K.dflt
  (tab (36 : TypeId)))).t == hasM s_7.snd.fst (List.getD l (Int.toNat (↑s_5.fst : Int)) (Ytbadejabphdkiaa.K.dflt (tab (36 : TypeId)))).t) (K (AVal.bool false)) (∃ (s0 :
  Unit), True ∧ True ∧ (EqR (Res.cells (44 : Nat) [AVal.int IntKind.i64 s, AVal.mapr (2 : Nat), AVal.mapr (3 : Nat)]) (Res.cells (44 : Nat) [AVal.int IntKind.i64 s,
  AVal.mapr (2 : Nat), AVal.mapr (3 : Nat)]) ∧ EqR (Res.vec (4 : Nat) s_5.snd.snd.snd) (Res.vec (4 : Nat) s_5.snd.snd.snd) ∧ EqR (Res.mapS IntKind.u64 (28 : Nat)
  s_7.snd.fst) (Res.mapS IntKind.u64 (28 : Nat) s_7.snd.fst) ∧ EqR (Res.mapS IntKind.u64 (4 : Nat) s_7.snd.snd) (Res.mapS IntKind.u64 (4 : Nat) s_7.snd.snd) ∧ True) ∧
  True)) (∃ (s0 : Unit), True ∧ True ∧ (EqR (Res.cells (44 : Nat) [AVal.int IntKind.i64 s, AVal.mapr (2 : Nat), AVal.mapr (3 : Nat)]) (Res.cells (44 : Nat) [AVal.int
  IntKind.i64 s, AVal.mapr (2 : Nat), AVal.mapr (3 : Nat)]) ∧ EqR (Res.vec (4 : Nat) s_5.snd.snd.snd) (Res.vec (4 : Nat) s_5.snd.snd.snd) ∧ EqR (Res.mapS IntKind.u64 (28 :
  Nat) s_7.snd.fst) (Res.mapS IntKind.u64 (28 : Nat) s_7.snd.fst) ∧ EqR (Res.mapS IntKind.u64 (4 : Nat) s_7.snd.snd) (Res.mapS IntKind.u64 (4 : Nat) s_7.snd.snd) ∧ True) ∧
  True))) (cnd ((!s_7.fst) == true) (cnd (!hasM s_5.snd.fst (List.getD l (Int.toNat (↑s_5.fst : Int)) (Ytbadejabphdkiaa.K.dflt (tab (36 : TypeId)))).t == hasM s_7.snd.fst
  (List.getD l (Int.toNat (↑s_5.fst : Int)) (Ytbadejabphdkiaa.K.dflt (tab (36 : TypeId)))).t) (K (AVal.bool false)) (∃ (s0 : Unit), True ∧ True ∧ (EqR (Res.cells (44 : Nat)
  [AVal.int IntKind.i64 s, AVal.mapr (2 : Nat), AVal.mapr (3 : Nat)]) (Res.cells (44 : Nat) [AVal.int IntKind.i64 s, AVal.mapr (2 : Nat), AVal.mapr (3 : Nat)]) ∧ EqR
  (Res.vec (4 : Nat) s_5.snd.snd.snd) (Res.vec (4 : Nat) s_5.snd.snd.snd) ∧ EqR (Res.mapS IntKind.u64 (28 : Nat) s_7.snd.fst) (Res.mapS IntKind.u64 (28 : Nat) s_7.snd.fst)
  ∧ EqR (Res.mapS IntKind.u64 (4 : Nat) s_7.snd.snd) (Res.mapS IntKind.u64 (4 : Nat) s_7.snd.snd) ∧ True) ∧ True)) (∃ (s0 : Unit), True ∧ True ∧ (EqR (Res.cells (44 : Nat)
  [AVal.int IntKind.i64 s, AVal.mapr (2 : Nat), AVal.mapr (3 : Nat)]) (Res.cells (44 : Nat) [AVal.int IntKind.i64 s, AVal.mapr (2 : Nat), AVal.mapr (3 : Nat)]) ∧ EqR
  (Res.vec (4 : Nat) s_5.snd.snd.snd) (Res.vec (4 : Nat) s_5.snd.snd.snd) ∧ EqR (Res.mapS IntKind.u64 (28 : Nat) s_7.snd.fst) (Res.mapS IntKind.u64 (28 : Nat) s_7.snd.fst)
  ∧ EqR (Res.mapS IntKind.u64 (4 : Nat) s_7.snd.snd) (Res.mapS IntKind.u64 (4 : Nat) s_7.snd.snd) ∧ True) ∧ True)))) (cnd (toldM s_5.snd.fst s_5.snd.snd.fst (List.getD l
  (Int.toNat (↑s_5.fst : Int)) ansD).t == true) (((0 : Int) ≤ (↑s_5.fst : Int) ∧ (↑s_5.fst : Int) < (↑(List.length l) : Int)) ∧ cnd (hasM s_7.snd.fst (List.getD l
  (Int.toNat (↑s_5.fst : Int)) (Ytbadejabphdkiaa.K.dflt (tab (36 : TypeId)))).t == false) (cnd ((!getM s_7.snd.snd (List.getD l (Int.toNat (↑s_5.fst : Int))
  (Ytbadejabphdkiaa.K.dflt (tab (36 : TypeId)))).t (Ytbadejabphdkiaa.K.dflt (tab (4 : TypeId)))) == false) (cnd ((!s_7.fst) == true) (cnd (!hasM s_5.snd.fst (List.getD l
  (Int.toNat (↑s_5.fst : Int)) (Ytbadejabphdkiaa.K.dflt (tab (36 : TypeId)))).t == hasM s_7.snd.fst (List.getD l (Int.toNat (↑s_5.fst : Int)) (Ytbadejabphdkiaa.K.dflt (tab
  (36 : TypeId)))).t) (K (AVal.bool false)) (∃ (s0 : Unit), True ∧ True ∧ (EqR (Res.cells (44 : Nat) [AVal.int IntKind.i64 s, AVal.mapr (2 : Nat), AVal.mapr (3 : Nat)])
  (Res.cells (44 : Nat) [AVal.int IntKind.i64 s, AVal.mapr (2 : Nat), AVal.mapr (3 : Nat)]) ∧ EqR (Res.vec (4 : Nat) s_5.snd.snd.snd) (Res.vec (4 : Nat) s_5.snd.snd.snd) ∧
  EqR (Res.mapS IntKind.u64 (28 : Nat) s_7.snd.fst) (Res.mapS IntKind.u64 (28 : Nat) s_7.snd.fst) ∧ EqR (Res.mapS IntKind.u64 (4 : Nat) s_7.snd.snd) (Res.mapS IntKind.u64
  (4 : Nat) s_7.snd.snd) ∧ True) ∧ True)) (∃ (s0 : Unit), True ∧ True ∧ (EqR (Res.cells (44 : Nat) [AVal.int IntKind.i64 s, AVal.mapr (2 : Nat), AVal.mapr (3 : Nat)])
  (Res.cells (44 : Nat) [AVal.int IntKind.i64 s, AVal.mapr (2 : Nat), AVal.mapr (3 : Nat)]) ∧ EqR (Res.vec (4 : Nat) s_5.snd.snd.snd) (Res.vec (4 : Nat) s_5.snd.snd.snd) ∧
  EqR (Res.mapS IntKind.u64 (28 : Nat) s_7.snd.fst) (Res.mapS IntKind.u64 (28 : Nat) s_7.snd.fst) ∧ EqR (Res.mapS IntKind.u64 (4 : Nat) s_7.snd.snd) (Res.mapS IntKind.u64
  (4 : Nat) s_7.snd.snd) ∧ True) ∧ True)) (K (AVal.bool false))) (cnd ((!s_7.fst) == true) (cnd (!hasM s_5.snd.fst (List.getD l (Int.toNat (↑s_5.fst : Int))
  (Ytbadejabphdkiaa.K.dflt (tab (36 : TypeId)))).t == hasM s_7.snd.fst (List.getD l (Int.toNat (↑s_5.fst : Int)) (Ytbadejabphdkiaa.K.dflt (tab (36 : TypeId)))).t) (K
  (AVal.bool false)) (∃ (s0 : Unit), True ∧ True ∧ (EqR (Res.cells (44 : Nat) [AVal.int IntKind.i64 s, AVal.mapr (2 : Nat), AVal.mapr (3 : Nat)]) (Res.cells (44 : Nat)
  [AVal.int IntKind.i64 s, AVal.mapr (2 : Nat), AVal.mapr (3 : Nat)]) ∧ EqR (Res.vec (4 : Nat) s_5.snd.snd.snd) (Res.vec (4 : Nat) s_5.snd.snd.snd) ∧ EqR (Res.mapS
  IntKind.u64 (28 : Nat) s_7.snd.fst) (Res.mapS IntKind.u64 (28 : Nat) s_7.snd.fst) ∧ EqR (Res.mapS IntKind.u64 (4 : Nat) s_7.snd.snd) (Res.mapS IntKind.u64 (4 : Nat)
  s_7.snd.snd) ∧ True) ∧ True)) (∃ (s0 : Unit), True ∧ True ∧ (EqR (Res.cells (44 : Nat) [AVal.int IntKind.i64 s, AVal.mapr (2 : Nat), AVal.mapr (3 : Nat)]) (Res.cells (44
  : Nat) [AVal.int IntKind.i64 s, AVal.mapr (2 : Nat), AVal.mapr (3 : Nat)]) ∧ EqR (Res.vec (4 : Nat) s_5.snd.snd.snd) (Res.vec (4 : Nat) s_5.snd.snd.snd) ∧ EqR (Res.mapS
  IntKind.u64 (28 : Nat) s_7.snd.fst) (Res.mapS IntKind.u64 (28 : Nat) s_7.snd.fst) ∧ EqR (Res.mapS IntKind.u64 (4 : Nat) s_7.snd.snd) (Res.mapS IntKind.u64 (4 : Nat)
  s_7.snd.snd) ∧ True) ∧ True))) (cnd ((!s_7.fst) == true) (cnd (!hasM s_5.snd.fst (List.getD l (Int.toNat (↑s_5.fst : Int)) (Ytbadejabphdkiaa.K.dflt (tab (36 :
  TypeId)))).t == hasM s_7.snd.fst (List.getD l (Int.toNat (↑s_5.fst : Int)) (Ytbadejabphdkiaa.K.dflt (tab (36 : TypeId)))).t) (K (AVal.bool false)) (∃ (s0 : Unit), True ∧
  True ∧ (EqR (Res.cells (44 : Nat) [AVal.int IntKind.i64 s, AVal.mapr (2 : Nat), AVal.mapr (3 : Nat)]) (Res.cells (44 : Nat) [AVal.int IntKind.i64 s, AVal.mapr (2 : Nat),
  AVal.mapr (3 : Nat)]) ∧ EqR (Res.vec (4 : Nat) s_5.snd.snd.snd) (Res.vec (4 : Nat) s_5.snd.snd.snd) ∧ EqR (Res.mapS IntKind.u64 (28 : Nat) s_7.snd.fst) (Res.mapS
  IntKind.u64 (28 : Nat) s_7.snd.fst) ∧ EqR (Res.mapS IntKind.u64 (4 : Nat) s_7.snd.snd) (Res.mapS IntKind.u64 (4 : Nat) s_7.snd.snd) ∧ True) ∧ True)) (∃ (s0 : Unit), True
  ∧ True ∧ (EqR (Res.cells (44 : Nat) [AVal.int IntKind.i64 s, AVal.mapr (2 : Nat), AVal.mapr (3 : Nat)]) (Res.cells (44 : Nat) [AVal.int IntKind.i64 s, AVal.mapr (2 :
  Nat), AVal.mapr (3 : Nat)]) ∧ EqR (Res.vec (4 : Nat) s_5.snd.snd.snd) (Res.vec (4 : Nat) s_5.snd.snd.snd) ∧ EqR (Res.mapS IntKind.u64 (28 : Nat) s_7.snd.fst) (Res.mapS
  IntKind.u64 (28 : Nat) s_7.snd.fst) ∧ EqR (Res.mapS IntKind.u64 (4 : Nat) s_7.snd.snd) (Res.mapS IntKind.u64 (4 : Nat) s_7.snd.snd) ∧ True) ∧ True))))) (cnd ((!hasM
  s_5.snd.fst (List.getD l (Int.toNat (↑s_5.fst : Int)) (Ytbadejabphdkiaa.K.dflt (tab (36 : TypeId)))).t) == true) (cnd (hasM s_7.snd.fst (List.getD l (Int.toNat (↑s_5.fst
  : Int)) (Ytbadejabphdkiaa.K.dflt (tab (36 : TypeId)))).t == true) (((0 : Int) ≤ (↑s_5.fst : Int) ∧ (↑s_5.fst : Int) < (↑(List.length l) : Int)) ∧ cnd (((List.getD l
  (Int.toNat (↑s_5.fst : Int)) (Ytbadejabphdkiaa.K.dflt (tab (36 : TypeId)))).op.k != (3 : Int)) == false) (cnd (toldM s_5.snd.fst s_5.snd.snd.fst (List.getD l (Int.toNat
  (↑s_5.fst : Int)) ansD).t == false) (cnd (toldM s_5.snd.fst s_5.snd.snd.fst (List.getD l (Int.toNat (↑s_5.fst : Int)) ansD).t == true) (((0 : Int) ≤ (↑s_5.fst : Int) ∧
  (↑s_5.fst : Int) < (↑(List.length l) : Int)) ∧ cnd (hasM s_7.snd.fst (List.getD l (Int.toNat (↑s_5.fst : Int)) (Ytbadejabphdkiaa.K.dflt (tab (36 : TypeId)))).t == false)
  (cnd ((!getM s_7.snd.snd (List.getD l (Int.toNat (↑s_5.fst : Int)) (Ytbadejabphdkiaa.K.dflt (tab (36 : TypeId)))).t (Ytbadejabphdkiaa.K.dflt (tab (4 : TypeId)))) ==
  false) (cnd ((!s_7.fst) == true) (cnd (!hasM s_5.snd.fst (List.getD l (Int.toNat (↑s_5.fst : Int)) (Ytbadejabphdkiaa.K.dflt (tab (36 : TypeId)))).t == hasM s_7.snd.fst
  (List.getD l (Int.toNat (↑s_5.fst : Int)) (Ytbadejabphdkiaa.K.dflt (tab (36 : TypeId)))).t) (K (AVal.bool false)) (∃ (s0 : Unit), True ∧ True ∧ (EqR (Res.cells (44 : Nat)
  [AVal.int IntKind.i64 s, AVal.mapr (2 : Nat), AVal.mapr (3 : Nat)]) (Res.cells (44 : Nat) [AVal.int IntKind.i64 s, AVal.mapr (2 : Nat), AVal.mapr (3 : Nat)]) ∧ EqR
  (Res.vec (4 : Nat) s_5.snd.snd.snd) (Res.vec (4 : Nat) s_5.snd.snd.snd) ∧ EqR (Res.mapS IntKind.u64 (28 : Nat) s_7.snd.fst) (Res.mapS IntKind.u64 (28 : Nat) s_7.snd.fst)
  ∧ EqR (Res.mapS IntKind.u64 (4 : Nat) s_7.snd.snd) (Res.mapS IntKind.u64 (4 : Nat) s_7.snd.snd) ∧ True) ∧ True)) (∃ (s0 : Unit), True ∧ True ∧ (EqR (Res.cells (44 : Nat)
  [AVal.int IntKind.i64 s, AVal.mapr (2 : Nat), AVal.mapr (3 : Nat)]) (Res.cells (44 : Nat) [AVal.int IntKind.i64 s, AVal.mapr (2 : Nat), AVal.mapr (3 : Nat)]) ∧ EqR
  (Res.vec (4 : Nat) s_5.snd.snd.snd) (Res.vec (4 : Nat) s_5.snd.snd.snd) ∧ EqR (Res.mapS IntKind.u64 (28 : Nat) s_7.snd.fst) (Res.mapS IntKind.u64 (28 : Nat) s_7.snd.fst)
  ∧ EqR (Res.mapS IntKind.u64 (4 : Nat) s_7.snd.snd) (Res.mapS IntKind.u64 (4 : Nat) s_7.snd.snd) ∧ True) ∧ True)) (K (AVal.bool false))) (cnd ((!s_7.fst) == true) (cnd
  (!hasM s_5.snd.fst (List.getD l (Int.toNat (↑s_5.fst : Int)) (Ytbadejabphdkiaa.K.dflt (tab (36 : TypeId)))).t == hasM s_7.snd.fst (List.getD l (Int.toNat (↑s_5.fst :
  Int)) (Ytbadejabphdkiaa.K.dflt (tab (36 : TypeId)))).t) (K (AVal.bool false)) (∃ (s0 : Unit), True ∧ True ∧ (EqR (Res.cells (44 : Nat) [AVal.int IntKind.i64 s, AVal.mapr
  (2 : Nat), AVal.mapr (3 : Nat)]) (Res.cells (44 : Nat) [AVal.int IntKind.i64 s, AVal.mapr (2 : Nat), AVal.mapr (3 : Nat)]) ∧ EqR (Res.vec (4 : Nat) s_5.snd.snd.snd)
  (Res.vec (4 : Nat) s_5.snd.snd.snd) ∧ EqR (Res.mapS IntKind.u64 (28 : Nat) s_7.snd.fst) (Res.mapS IntKind.u64 (28 : Nat) s_7.snd.fst) ∧ EqR (Res.mapS IntKind.u64 (4 :
  Nat) s_7.snd.snd) (Res.mapS IntKind.u64 (4 : Nat) s_7.snd.snd) ∧ True) ∧ True)) (∃ (s0 : Unit), True ∧ True ∧ (EqR (Res.cells (44 : Nat) [AVal.int IntKind.i64 s,
  AVal.mapr (2 : Nat), AVal.mapr (3 : Nat)]) (Res.cells (44 : Nat) [AVal.int IntKind.i64 s, AVal.mapr (2 : Nat), AVal.mapr (3 : Nat)]) ∧ EqR (Res.vec (4 : Nat)
  s_5.snd.snd.snd) (Res.vec (4 : Nat) s_5.snd.snd.snd) ∧ EqR (Res.mapS IntKind.u64 (28 : Nat) s_7.snd.fst) (Res.mapS IntKind.u64 (28 : Nat) s_7.snd.fst) ∧ EqR (Res.mapS
  IntKind.u64 (4 : Nat) s_7.snd.snd) (Res.mapS IntKind.u64 (4 : Nat) s_7.snd.snd) ∧ True) ∧ True))) (cnd ((!s_7.fst) == true) (cnd (!hasM s_5.snd.fst (List.getD l
  (Int.toNat (↑s_5.fst : Int)) (Ytbadejabphdkiaa.K.dflt (tab (36 : TypeId)))).t == hasM s_7.snd.fst (List.getD l (Int.toNat (↑s_5.fst : Int)) (Ytbadejabphdkiaa.K.dflt (tab
  (36 : TypeId)))).t) (K (AVal.bool false)) (∃ (s0 : Unit), True ∧ True ∧ (EqR (Res.cells (44 : Nat) [AVal.int IntKind.i64 s, AVal.mapr (2 : Nat), AVal.mapr (3 : Nat)])
  (Res.cells (44 : Nat) [AVal.int IntKind.i64 s, AVal.mapr (2 : Nat), AVal.mapr (3 : Nat)]) ∧ EqR (Res.vec (4 : Nat) s_5.snd.snd.snd) (Res.vec (4 : Nat) s_5.snd.snd.snd) ∧
  EqR (Res.mapS IntKind.u64 (28 : Nat) s_7.snd.fst) (Res.mapS IntKind.u64 (28 : Nat) s_7.snd.fst) ∧ EqR (Res.mapS IntKind.u64 (4 : Nat) s_7.snd.snd) (Res.mapS IntKind.u64
  (4 : Nat) s_7.snd.snd) ∧ True) ∧ True)) (∃ (s0 : Unit), True ∧ True ∧ (EqR (Res.cells (44 : Nat) [AVal.int IntKind.i64 s, AVal.mapr (2 : Nat), AVal.mapr (3 : Nat)])
  (Res.cells (44 : Nat) [AVal.int IntKind.i64 s, AVal.mapr (2 : Nat), AVal.mapr (3 : Nat)]) ∧ EqR (Res.vec (4 : Nat) s_5.snd.snd.snd) (Res.vec (4 : Nat) s_5.snd.snd.snd) ∧
  EqR (Res.mapS IntKind.u64 (28 : Nat) s_7.snd.fst) (Res.mapS IntKind.u64 (28 : Nat) s_7.snd.fst) ∧ EqR (Res.mapS IntKind.u64 (4 : Nat) s_7.snd.snd) (Res.mapS IntKind.u64
  (4 : Nat) s_7.snd.snd) ∧ True) ∧ True))) (K (AVal.bool false))) (K (AVal.bool false))) (cnd (toldM s_5.snd.fst s_5.snd.snd.fst (List.getD l (Int.toNat (↑s_5.fst : Int))
  ansD).t == true) (((0 : Int) ≤ (↑s_5.fst : Int) ∧ (↑s_5.fst : Int) < (↑(List.length l) : Int)) ∧ cnd (hasM s_7.snd.fst (List.getD l (Int.toNat (↑s_5.fst : Int))
  (Ytbadejabphdkiaa.K.dflt (tab (36 : TypeId)))).t == false) (cnd ((!getM s_7.snd.snd (List.getD l (Int.toNat (↑s_5.fst : Int)) (Ytbadejabphdkiaa.K.dflt (tab (36 :
  TypeId)))).t (Ytbadejabphdkiaa.K.dflt (tab (4 : TypeId)))) == false) (cnd ((!s_7.fst) == true) (cnd (!hasM s_5.snd.fst (List.getD l (Int.toNat (↑s_5.fst : Int))
  (Ytbadejabphdkiaa.K.dflt (tab (36 : TypeId)))).t == hasM s_7.snd.fst (List.getD l (Int.toNat (↑s_5.fst : Int)) (Ytbadejabphdkiaa.K.dflt (tab (36 : TypeId)))).t) (K
  (AVal.bool false)) (∃ (s0 : Unit), True ∧ True ∧ (EqR (Res.cells (44 : Nat) [AVal.int IntKind.i64 s, AVal.mapr (2 : Nat), AVal.mapr (3 : Nat)]) (Res.cells (44 : Nat)
  [AVal.int IntKind.i64 s, AVal.mapr (2 : Nat), AVal.mapr (3 : Nat)]) ∧ EqR (Res.vec (4 : Nat) s_5.snd.snd.snd) (Res.vec (4 : Nat) s_5.snd.snd.snd) ∧ EqR (Res.mapS
  IntKind.u64 (28 : Nat) s_7.snd.fst) (Res.mapS IntKind.u64 (28 : Nat) s_7.snd.fst) ∧ EqR (Res.mapS IntKind.u64 (4 : Nat) s_7.snd.snd) (Res.mapS IntKind.u64 (4 : Nat)
  s_7.snd.snd) ∧ True) ∧ True)) (∃ (s0 : Unit), True ∧ True ∧ (EqR (Res.cells (44 : Nat) [AVal.int IntKind.i64 s, AVal.mapr (2 : Nat), AVal.mapr (3 : Nat)]) (Res.cells (44
  : Nat) [AVal.int IntKind.i64 s, AVal.mapr (2 : Nat), AVal.mapr (3 : Nat)]) ∧ EqR (Res.vec (4 : Nat) s_5.snd.snd.snd) (Res.vec (4 : Nat) s_5.snd.snd.snd) ∧ EqR (Res.mapS
  IntKind.u64 (28 : Nat) s_7.snd.fst) (Res.mapS IntKind.u64 (28 : Nat) s_7.snd.fst) ∧ EqR (Res.mapS IntKind.u64 (4 : Nat) s_7.snd.snd) (Res.mapS IntKind.u64 (4 : Nat)
  s_7.snd.snd) ∧ True) ∧ True)) (K (AVal.bool false))) (cnd ((!s_7.fst) == true) (cnd (!hasM s_5.snd.fst (List.getD l (Int.toNat (↑s_5.fst : Int)) (Ytbadejabphdkiaa.K.dflt
  (tab (36 : TypeId)))).t == hasM s_7.snd.fst (List.getD l (Int.toNat (↑s_5.fst : Int)) (Ytbadejabphdkiaa.K.dflt (tab (36 : TypeId)))).t) (K (AVal.bool false)) (∃ (s0 :
  Unit), True ∧ True ∧ (EqR (Res.cells (44 : Nat) [AVal.int IntKind.i64 s, AVal.mapr (2 : Nat), AVal.mapr (3 : Nat)]) (Res.cells (44 : Nat) [AVal.int IntKind.i64 s,
  AVal.mapr (2 : Nat), AVal.mapr (3 : Nat)]) ∧ EqR (Res.vec (4 : Nat) s_5.snd.snd.snd) (Res.vec (4 : Nat) s_5.snd.snd.snd) ∧ EqR (Res.mapS IntKind.u64 (28 : Nat)
  s_7.snd.fst) (Res.mapS IntKind.u64 (28 : Nat) s_7.snd.fst) ∧ EqR (Res.mapS IntKind.u64 (4 : Nat) s_7.snd.snd) (Res.mapS IntKind.u64 (4 : Nat) s_7.snd.snd) ∧ True) ∧
  True)) (∃ (s0 : Unit), True ∧ True ∧ (EqR (Res.cells (44 : Nat) [AVal.int IntKind.i64 s, AVal.mapr (2 : Nat), AVal.mapr (3 : Nat)]) (Res.cells (44 : Nat) [AVal.int
  IntKind.i64 s, AVal.mapr (2 : Nat), AVal.mapr (3 : Nat)]) ∧ EqR (Res.vec (4 : Nat) s_5.snd.snd.snd) (Res.vec (4 : Nat) s_5.snd.snd.snd) ∧ EqR (Res.mapS IntKind.u64 (28 :
  Nat) s_7.snd.fst) (Res.mapS IntKind.u64 (28 : Nat) s_7.snd.fst) ∧ EqR (Res.mapS IntKind.u64 (4 : Nat) s_7.snd.snd) (Res.mapS IntKind.u64 (4 : Nat) s_7.snd.snd) ∧ True) ∧
  True))) (cnd ((!s_7.fst) == true) (cnd (!hasM s_5.snd.fst (List.getD l (Int.toNat (↑s_5.fst : Int)) (Ytbadejabphdkiaa.K.dflt (tab (36 : TypeId)))).t == hasM s_7.snd.fst
  (List.getD l (Int.toNat (↑s_5.fst : Int)) (Ytbadejabphdkiaa.K.dflt (tab (36 : TypeId)))).t) (K (AVal.bool false)) (∃ (s0 : Unit), True ∧ True ∧ (EqR (Res.cells (44 : Nat)
  [AVal.int IntKind.i64 s, AVal.mapr (2 : Nat), AVal.mapr (3 : Nat)]) (Res.cells (44 : Nat) [AVal.int IntKind.i64 s, AVal.mapr (2 : Nat), AVal.mapr (3 : Nat)]) ∧ EqR
  (Res.vec (4 : Nat) s_5.snd.snd.snd) (Res.vec (4 : Nat) s_5.snd.snd.snd) ∧ EqR (Res.mapS IntKind.u64 (28 : Nat) s_7.snd.fst) (Res.mapS IntKind.u64 (28 : Nat) s_7.snd.fst)
  ∧ EqR (Res.mapS IntKind.u64 (4 : Nat) s_7.snd.snd) (Res.mapS IntKind.u64 (4 : Nat) s_7.snd.snd) ∧ True) ∧ True)) (∃ (s0 : Unit), True ∧ True ∧ (EqR (Res.cells (44 : Nat)
  [AVal.int IntKind.i64 s, AVal.mapr (2 : Nat), AVal.mapr (3 : Nat)]) (Res.cells (44 : Nat) [AVal.int IntKind.i64 s, AVal.mapr (2 : Nat), AVal.mapr (3 : Nat)]) ∧ EqR
  (Res.vec (4 : Nat) s_5.snd.snd.snd) (Res.vec (4 : Nat) s_5.snd.snd.snd) ∧ EqR (Res.mapS IntKind.u64 (28 : Nat) s_7.snd.fst) (Res.mapS IntKind.u64 (28 : Nat) s_7.snd.fst)
  ∧ EqR (Res.mapS IntKind.u64 (4 : Nat) s_7.snd.snd) (Res.mapS IntKind.u64 (4 : Nat) s_7.snd.snd) ∧ True) ∧ True)))) (cnd (toldM s_5.snd.fst s_5.snd.snd.fst (List.getD l
  (Int.toNat (↑s_5.fst : Int)) ansD).t == true) (((0 : Int) ≤ (↑s_5.fst : Int) ∧ (↑s_5.fst : Int) < (↑(List.length l) : Int)) ∧ cnd (hasM s_7.snd.fst (List.getD l
  (Int.toNat (↑s_5.fst : Int)) (Ytbadejabphdkiaa.K.dflt (tab (36 : TypeId)))).t == false) (cnd ((!getM s_7.snd.snd (List.getD l (Int.toNat (↑s_5.fst : Int))
  (Ytbadejabphdkiaa.K.dflt (tab (36 : TypeId)))).t (Ytbadejabphdkiaa.K.dflt (tab (4 : TypeId)))) == false) (cnd ((!s_7.fst) == true) (cnd (!hasM s_5.snd.fst (List.getD l
  (Int.toNat (↑s_5.fst : Int)) (Ytbadejabphdkiaa.K.dflt (tab (36 : TypeId)))).t == hasM s_7.snd.fst (List.getD l (Int.toNat (↑s_5.fst : Int)) (Ytbadejabphdkiaa.K.dflt (tab
  (36 : TypeId)))).t) (K (AVal.bool false)) (∃ (s0 : Unit), True ∧ True ∧ (EqR (Res.cells (44 : Nat) [AVal.int IntKind.i64 s, AVal.mapr (2 : Nat), AVal.mapr (3 : Nat)])
  (Res.cells (44 : Nat) [AVal.int IntKind.i64 s, AVal.mapr (2 : Nat), AVal.mapr (3 : Nat)]) ∧ EqR (Res.vec (4 : Nat) s_5.snd.snd.snd) (Res.vec (4 : Nat) s_5.snd.snd.snd) ∧
  EqR (Res.mapS IntKind.u64 (28 : Nat) s_7.snd.fst) (Res.mapS IntKind.u64 (28 : Nat) s_7.snd.fst) ∧ EqR (Res.mapS IntKind.u64 (4 : Nat) s_7.snd.snd) (Res.mapS IntKind.u64
  (4 : Nat) s_7.snd.snd) ∧ True) ∧ True)) (∃ (s0 : Unit), True ∧ True ∧ (EqR (Res.cells (44 : Nat) [AVal.int IntKind.i64 s, AVal.mapr (2 : Nat), AVal.mapr (3 : Nat)])
  (Res.cells (44 : Nat) [AVal.int IntKind.i64 s, AVal.mapr (2 : Nat), AVal.mapr (3 : Nat)]) ∧ EqR (Res.vec (4 : Nat) s_5.snd.snd.snd) (Res.vec (4 : Nat) s_5.snd.snd.snd) ∧
  EqR (Res.mapS IntKind.u64 (28 : Nat) s_7.snd.fst) (Res.mapS IntKind.u64 (28 : Nat) s_7.snd.fst) ∧ EqR (Res.mapS IntKind.u64 (4 : Nat) s_7.snd.snd) (Res.mapS IntKind.u64
  (4 : Nat) s_7.snd.snd) ∧ True) ∧ True)) (K (AVal.bool false))) (cnd ((!s_7.fst) == true) (cnd (!hasM s_5.snd.fst (List.getD l (Int.toNat (↑s_5.fst : Int))
  (Ytbadejabphdkiaa.K.dflt (tab (36 : TypeId)))).t == hasM s_7.snd.fst (List.getD l (Int.toNat (↑s_5.fst : Int)) (Ytbadejabphdkiaa.K.dflt (tab (36 : TypeId)))).t) (K
  (AVal.bool false)) (∃ (s0 : Unit), True ∧ True ∧ (EqR (Res.cells (44 : Nat) [AVal.int IntKind.i64 s, AVal.mapr (2 : Nat), AVal.mapr (3 : Nat)]) (Res.cells (44 : Nat)
  [AVal.int IntKind.i64 s, AVal.mapr (2 : Nat), AVal.mapr (3 : Nat)]) ∧ EqR (Res.vec (4 : Nat) s_5.snd.snd.snd) (Res.vec (4 : Nat) s_5.snd.snd.snd) ∧ EqR (Res.mapS
  IntKind.u64 (28 : Nat) s_7.snd.fst) (Res.mapS IntKind.u64 (28 : Nat) s_7.snd.fst) ∧ EqR (Res.mapS IntKind.u64 (4 : Nat) s_7.snd.snd) (Res.mapS IntKind.u64 (4 : Nat)
  s_7.snd.snd) ∧ True) ∧ True)) (∃ (s0 : Unit), True ∧ True ∧ (EqR (Res.cells (44 : Nat) [AVal.int IntKind.i64 s, AVal.mapr (2 : Nat), AVal.mapr (3 : Nat)]) (Res.cells (44
  : Nat) [AVal.int IntKind.i64 s, AVal.mapr (2 : Nat), AVal.mapr (3 : Nat)]) ∧ EqR (Res.vec (4 : Nat) s_5.snd.snd.snd) (Res.vec (4 : Nat) s_5.snd.snd.snd) ∧ EqR (Res.mapS
  IntKind.u64 (28 : Nat) s_7.snd.fst) (Res.mapS IntKind.u64 (28 : Nat) s_7.snd.fst) ∧ EqR (Res.mapS IntKind.u64 (4 : Nat) s_7.snd.snd) (Res.mapS IntKind.u64 (4 : Nat)
  s_7.snd.snd) ∧ True) ∧ True))) (cnd ((!s_7.fst) == true) (cnd (!hasM s_5.snd.fst (List.getD l (Int.toNat (↑s_5.fst : Int)) (Ytbadejabphdkiaa.K.dflt (tab (36 :
  TypeId)))).t == hasM s_7.snd.fst (List.getD l (Int.toNat (↑s_5.fst : Int)) (Ytbadejabphdkiaa.K.dflt (tab (36 : TypeId)))).t) (K (AVal.bool false)) (∃ (s0 : Unit), True ∧
  True ∧ (EqR (Res.cells (44 : Nat) [AVal.int IntKind.i64 s, AVal.mapr (2 : Nat), AVal.mapr (3 : Nat)]) (Res.cells (44 : Nat) [AVal.int IntKind.i64 s, AVal.mapr (2 : Nat),
  AVal.mapr (3 : Nat)]) ∧ EqR (Res.vec (4 : Nat) s_5.snd.snd.snd) (Res.vec (4 : Nat) s_5.snd.snd.snd) ∧ EqR (Res.mapS IntKind.u64 (28 : Nat) s_7.snd.fst) (Res.mapS
  IntKind.u64 (28 : Nat) s_7.snd.fst) ∧ EqR (Res.mapS IntKind.u64 (4 : Nat) s_7.snd.snd) (Res.mapS IntKind.u64 (4 : Nat) s_7.snd.snd) ∧ True) ∧ True)) (∃ (s0 : Unit), True
  ∧ True ∧ (EqR (Res.cells (44 : Nat) [AVal.int IntKind.i64 s, AVal.mapr (2 : Nat), AVal.mapr (3 : Nat)]) (Res.cells (44 : Nat) [AVal.int IntKind.i64 s, AVal.mapr (2 :
  Nat), AVal.mapr (3 : Nat)]) ∧ EqR (Res.vec (4 : Nat) s_5.snd.snd.snd) (Res.vec (4 : Nat) s_5.snd.snd.snd) ∧ EqR (Res.mapS IntKind.u64 (28 : Nat) s_7.snd.fst) (Res.mapS
  IntKind.u64 (28 : Nat) s_7.snd.fst) ∧ EqR (Res.mapS IntKind.u64 (4 : Nat) s_7.snd.snd) (Res.mapS IntKind.u64 (4 : Nat) s_7.snd.snd) ∧ True) ∧ True)))) ∧ ∀ (s_8 : Unit),
  True → cnd (hasM s_5.snd.fst (List.getD l (Int.toNat (↑s_5.fst : Int)) (Ytbadejabphdkiaa.K.dflt (tab (36 : TypeId)))).t == true) (((0 : Int) ≤ (↑s_5.fst : Int) ∧
  (↑s_5.fst : Int) < (↑(List.length s_5.snd.snd.snd) : Int)) ∧ Int.toNat (↑s_5.fst : Int) < List.length s_5.snd.snd.snd ∧ (∃ (s0 : Nat), s0 ≤ Int.toNat (↑s_5.fst : Int) +
  (1 : Nat) ∧ (EqA (AVal.int IntKind.i64 (0 : Int)) (AVal.int IntKind.i64 (↑s0 : Int)) ∧ True) ∧ (EqR (Res.cells (44 : Nat) [AVal.int IntKind.i64 s, AVal.mapr (2 : Nat),
  AVal.mapr (3 : Nat)]) (Res.cells (44 : Nat) [AVal.int IntKind.i64 s, AVal.mapr (2 : Nat), AVal.mapr (3 : Nat)]) ∧ EqR (Res.vec (4 : Nat) (List.set s_5.snd.snd.snd
  (Int.toNat (↑s_5.fst : Int)) !hasM s_7.snd.fst (List.getD l (Int.toNat (↑s_5.fst : Int)) (Ytbadejabphdkiaa.K.dflt (tab (36 : TypeId)))).t)) (Res.vec (4 : Nat) (List.set
  s_5.snd.snd.snd (Int.toNat (↑s_5.fst : Int)) !hasM s_7.snd.fst (List.getD l (Int.toNat (↑s_5.fst : Int)) (Ytbadejabphdkiaa.K.dflt (tab (36 : TypeId)))).t)) ∧ EqR
  (Res.mapS IntKind.u64 (28 : Nat) s_7.snd.fst) (Res.mapS IntKind.u64 (28 : Nat) s_7.snd.fst) ∧ EqR (Res.mapS IntKind.u64 (4 : Nat) s_7.snd.snd) (Res.mapS IntKind.u64 (4 :
  Nat) s_7.snd.snd) ∧ True) ∧ True) ∧ ∀ (s_9 : Nat), s_9 ≤ Int.toNat (↑s_5.fst : Int) + (1 : Nat) → cnd (decide ((↑s_9 : Int) ≤ (↑s_5.fst : Int))) (((0 : Int) ≤ (↑s_9 :
  Int) ∧ (↑s_9 : Int) < (↑(List.length (List.set s_5.snd.snd.snd (Int.toNat (↑s_5.fst : Int)) !hasM s_7.snd.fst (List.getD l (Int.toNat (↑s_5.fst : Int))
  (Ytbadejabphdkiaa.K.dflt (tab (36 : TypeId)))).t)) : Int)) ∧ Int.toNat (↑s_9 : Int) < List.length (List.set s_5.snd.snd.snd (Int.toNat (↑s_5.fst : Int)) !hasM s_7.snd.fst
  (List.getD l (Int.toNat (↑s_5.fst : Int)) (Ytbadejabphdkiaa.K.dflt (tab (36 : TypeId)))).t) ∧ cnd (List.getD (List.set s_5.snd.snd.snd (Int.toNat (↑s_5.fst : Int)) !hasM
  s_7.snd.fst (List.getD l (Int.toNat (↑s_5.fst : Int)) (Ytbadejabphdkiaa.K.dflt (tab (36 : TypeId)))).t) (Int.toNat (↑s_9 : Int)) (Ytbadejabphdkiaa.K.dflt (tab (4 :
  TypeId)))) (((0 : Int) ≤ (↑s_9 : Int) ∧ (↑s_9 : Int) < (↑(List.length l) : Int)) ∧ cnd (hasM s_7.snd.fst (List.getD l (Int.toNat (↑s_9 : Int)) (Ytbadejabphdkiaa.K.dflt
  (tab (36 : TypeId)))).t) (K (AVal.bool false)) (∃ (s' : Nat), s' ≤ Int.toNat (↑s_5.fst : Int) + (1 : Nat) ∧ Int.toNat (↑s_5.fst : Int) + (1 : Nat) - s' < Int.toNat
  (↑s_5.fst : Int) + (1 : Nat) - s_9 ∧ (EqA (AVal.int IntKind.i64 (IntKind.wrap IntKind.i64 ((↑s_9 : Int) + (1 : Int)))) (AVal.int IntKind.i64 (↑s' : Int)) ∧ True) ∧ (EqR
  (Res.cells (44 : Nat) [AVal.int IntKind.i64 s, AVal.mapr (2 : Nat), AVal.mapr (3 : Nat)]) (Res.cells (44 : Nat) [AVal.int IntKind.i64 s, AVal.mapr (2 : Nat), AVal.mapr (3
  : Nat)]) ∧ EqR (Res.vec (4 : Nat) (List.set s_5.snd.snd.snd (Int.toNat (↑s_5.fst : Int)) !hasM s_7.snd.fst (List.getD l (Int.toNat (↑s_5.fst : Int))
  (Ytbadejabphdkiaa.K.dflt (tab (36 : TypeId)))).t)) (Res.vec (4 : Nat) (List.set s_5.snd.snd.snd (Int.toNat (↑s_5.fst : Int)) !hasM s_7.snd.fst (List.getD l (Int.toNat
  (↑s_5.fst : Int)) (Ytbadejabphdkiaa.K.dflt (tab (36 : TypeId)))).t)) ∧ EqR (Res.mapS IntKind.u64 (28 : Nat) s_7.snd.fst) (Res.mapS IntKind.u64 (28 : Nat) s_7.snd.fst) ∧
  EqR (Res.mapS IntKind.u64 (4 : Nat) s_7.snd.snd) (Res.mapS IntKind.u64 (4 : Nat) s_7.snd.snd) ∧ True) ∧ True)) (∃ (s' : Nat), s' ≤ Int.toNat (↑s_5.fst : Int) + (1 : Nat)
  ∧ Int.toNat (↑s_5.fst : Int) + (1 : Nat) - s' < Int.toNat (↑s_5.fst : Int) + (1 : Nat) - s_9 ∧ (EqA (AVal.int IntKind.i64 (IntKind.wrap IntKind.i64 ((↑s_9 : Int) + (1 :
  Int)))) (AVal.int IntKind.i64 (↑s' : Int)) ∧ True) ∧ (EqR (Res.cells (44 : Nat) [AVal.int IntKind.i64 s, AVal.mapr (2 : Nat), AVal.mapr (3 : Nat)]) (Res.cells (44 : Nat)
  [AVal.int IntKind.i64 s, AVal.mapr (2 : Nat), AVal.mapr (3 : Nat)]) ∧ EqR (Res.vec (4 : Nat) (List.set s_5.snd.snd.snd (Int.toNat (↑s_5.fst : Int)) !hasM s_7.snd.fst
  (List.getD l (Int.toNat (↑s_5.fst : Int)) (Ytbadejabphdkiaa.K.dflt (tab (36 : TypeId)))).t)) (Res.vec (4 : Nat) (List.set s_5.snd.snd.snd (Int.toNat (↑s_5.fst : Int))
  !hasM s_7.snd.fst (List.getD l (Int.toNat (↑s_5.fst : Int)) (Ytbadejabphdkiaa.K.dflt (tab (36 : TypeId)))).t)) ∧ EqR (Res.mapS IntKind.u64 (28 : Nat) s_7.snd.fst)
  (Res.mapS IntKind.u64 (28 : Nat) s_7.snd.fst) ∧ EqR (Res.mapS IntKind.u64 (4 : Nat) s_7.snd.snd) (Res.mapS IntKind.u64 (4 : Nat) s_7.snd.snd) ∧ True) ∧ True)) (∃ (s' :
  Nat × MapL × MapD × List Bool), DeadInv l s'.fst s'.snd.fst s'.snd.snd.fst s'.snd.snd.snd ∧ List.length l - s'.fst < List.length l - s_5.fst ∧ (EqA (AVal.int IntKind.i64
  (IntKind.wrap IntKind.i64 ((↑s_5.fst : Int) + (1 : Int)))) (AVal.int IntKind.i64 (↑s'.fst : Int)) ∧ True) ∧ (EqR (Res.cells (44 : Nat) [AVal.int IntKind.i64 s, AVal.mapr
  (2 : Nat), AVal.mapr (3 : Nat)]) (Res.cells (44 : Nat) [AVal.int IntKind.i64 s, AVal.mapr (2 : Nat), AVal.mapr (3 : Nat)]) ∧ EqR (Res.vec (4 : Nat) (List.set
  s_5.snd.snd.snd (Int.toNat (↑s_5.fst : Int)) !hasM s_7.snd.fst (List.getD l (Int.toNat (↑s_5.fst : Int)) (Ytbadejabphdkiaa.K.dflt (tab (36 : TypeId)))).t)) (Res.vec (4 :
  Nat) s'.snd.snd.snd) ∧ EqR (Res.mapS IntKind.u64 (28 : Nat) s_7.snd.fst) (Res.mapS IntKind.u64 (28 : Nat) s'.snd.fst) ∧ EqR (Res.mapS IntKind.u64 (4 : Nat) s_7.snd.snd)
  (Res.mapS IntKind.u64 (4 : Nat) s'.snd.snd.fst) ∧ True) ∧ True)) (((0 : Int) ≤ (↑s_5.fst : Int) ∧ (↑s_5.fst : Int) < (↑(List.length s_5.snd.snd.snd) : Int)) ∧ Int.toNat
  (↑s_5.fst : Int) < List.length s_5.snd.snd.snd ∧ (∃ (s0 : Nat), s0 ≤ Int.toNat (↑s_5.fst : Int) + (1 : Nat) ∧ (EqA (AVal.int IntKind.i64 (0 : Int)) (AVal.int IntKind.i64
  (↑s0 : Int)) ∧ True) ∧ (EqR (Res.cells (44 : Nat) [AVal.int IntKind.i64 s, AVal.mapr (2 : Nat), AVal.mapr (3 : Nat)]) (Res.cells (44 : Nat) [AVal.int IntKind.i64 s,
  AVal.mapr (2 : Nat), AVal.mapr (3 : Nat)]) ∧ EqR (Res.vec (4 : Nat) (List.set s_5.snd.snd.snd (Int.toNat (↑s_5.fst : Int)) false)) (Res.vec (4 : Nat) (List.set
  s_5.snd.snd.snd (Int.toNat (↑s_5.fst : Int)) false)) ∧ EqR (Res.mapS IntKind.u64 (28 : Nat) s_7.snd.fst) (Res.mapS IntKind.u64 (28 : Nat) s_7.snd.fst) ∧ EqR (Res.mapS
  IntKind.u64 (4 : Nat) s_7.snd.snd) (Res.mapS IntKind.u64 (4 : Nat) s_7.snd.snd) ∧ True) ∧ True) ∧ ∀ (s_9 : Nat), s_9 ≤ Int.toNat (↑s_5.fst : Int) + (1 : Nat) → cnd
  (decide ((↑s_9 : Int) ≤ (↑s_5.fst : Int))) (((0 : Int) ≤ (↑s_9 : Int) ∧ (↑s_9 : Int) < (↑(List.length (List.set s_5.snd.snd.snd (Int.toNat (↑s_5.fst : Int)) false)) :
  Int)) ∧ Int.toNat (↑s_9 : Int) < List.length (List.set s_5.snd.snd.snd (Int.toNat (↑s_5.fst : Int)) false) ∧ cnd (List.getD (List.set s_5.snd.snd.snd (Int.toNat (↑s_5.fst
  : Int)) false) (Int.toNat (↑s_9 : Int)) (Ytbadejabphdkiaa.K.dflt (tab (4 : TypeId)))) (((0 : Int) ≤ (↑s_9 : Int) ∧ (↑s_9 : Int) < (↑(List.length l) : Int)) ∧ cnd (hasM
  s_7.snd.fst (List.getD l (Int.toNat (↑s_9 : Int)) (Ytbadejabphdkiaa.K.dflt (tab (36 : TypeId)))).t) (K (AVal.bool false)) (∃ (s' : Nat), s' ≤ Int.toNat (↑s_5.fst : Int) +
  (1 : Nat) ∧ Int.toNat (↑s_5.fst : Int) + (1 : Nat) - s' < Int.toNat (↑s_5.fst : Int) + (1 : Nat) - s_9 ∧ (EqA (AVal.int IntKind.i64 (IntKind.wrap IntKind.i64 ((↑s_9 :
  Int) + (1 : Int)))) (AVal.int IntKind.i64 (↑s' : Int)) ∧ True) ∧ (EqR (Res.cells (44 : Nat) [AVal.int IntKind.i64 s, AVal.mapr (2 : Nat), AVal.mapr (3 : Nat)]) (Res.cells
  (44 : Nat) [AVal.int IntKind.i64 s, AVal.mapr (2 : Nat), AVal.mapr (3 : Nat)]) ∧ EqR (Res.vec (4 : Nat) (List.set s_5.snd.snd.snd (Int.toNat (↑s_5.fst : Int)) false))
  (Res.vec (4 : Nat) (List.set s_5.snd.snd.snd (Int.toNat (↑s_5.fst : Int)) false)) ∧ EqR (Res.mapS IntKind.u64 (28 : Nat) s_7.snd.fst) (Res.mapS IntKind.u64 (28 : Nat)
  s_7.snd.fst) ∧ EqR (Res.mapS IntKind.u64 (4 : Nat) s_7.snd.snd) (Res.mapS IntKind.u64 (4 : Nat) s_7.snd.snd) ∧ True) ∧ True)) (∃ (s' : Nat), s' ≤ Int.toNat (↑s_5.fst :
  Int) + (1 : Nat) ∧ Int.toNat (↑s_5.fst : Int) + (1 : Nat) - s' < Int.toNat (↑s_5.fst : Int) + (1 : Nat) - s_9 ∧ (EqA (AVal.int IntKind.i64 (IntKind.wrap IntKind.i64
  ((↑s_9 : Int) + (1 : Int)))) (AVal.int IntKind.i64 (↑s' : Int)) ∧ True) ∧ (EqR (Res.cells (44 : Nat) [AVal.int IntKind.i64 s, AVal.mapr (2 : Nat), AVal.mapr (3 : Nat)])
  (Res.cells (44 : Nat) [AVal.int IntKind.i64 s, AVal.mapr (2 : Nat), AVal.mapr (3 : Nat)]) ∧ EqR (Res.vec (4 : Nat) (List.set s_5.snd.snd.snd (Int.toNat (↑s_5.fst : Int))
  false)) (Res.vec (4 : Nat) (List.set s_5.snd.snd.snd (Int.toNat (↑s_5.fst : Int)) false)) ∧ EqR (Res.mapS IntKind.u64 (28 : Nat) s_7.snd.fst) (Res.mapS IntKind.u64 (28 :
  Nat) s_7.snd.fst) ∧ EqR (Res.mapS IntKind.u64 (4 : Nat) s_7.snd.snd) (Res.mapS IntKind.u64 (4 : Nat) s_7.snd.snd) ∧ True) ∧ True)) (∃ (s' : Nat × MapL × MapD × List
  Bool), DeadInv l s'.fst s'.snd.fst s'.snd.snd.fst s'.snd.snd.snd ∧ List.length l - s'.fst < List.length l - s_5.fst ∧ (EqA (AVal.int IntKind.i64 (IntKind.wrap IntKind.i64
  ((↑s_5.fst : Int) + (1 : Int)))) (AVal.int IntKind.i64 (↑s'.fst : Int)) ∧ True) ∧ (EqR (Res.cells (44 : Nat) [AVal.int IntKind.i64 s, AVal.mapr (2 : Nat), AVal.mapr (3 :
  Nat)]) (Res.cells (44 : Nat) [AVal.int IntKind.i64 s, AVal.mapr (2 : Nat), AVal.mapr (3 : Nat)]) ∧ EqR (Res.vec (4 : Nat) (List.set s_5.snd.snd.snd (Int.toNat (↑s_5.fst :
  Int)) false)) (Res.vec (4 : Nat) s'.snd.snd.snd) ∧ EqR (Res.mapS IntKind.u64 (28 : Nat) s_7.snd.fst) (Res.mapS IntKind.u64 (28 : Nat) s'.snd.fst) ∧ EqR (Res.mapS
  IntKind.u64 (4 : Nat) s_7.snd.snd) (Res.mapS IntKind.u64 (4 : Nat) s'.snd.snd.fst) ∧ True) ∧ True))) (K (AVal.bool true)))) (K (AVal.bool true)))) := by kernel_rfl

end Go.Proofs.Ytbadejabphdkiaa
