/- What the statement PlanTells and its reference come to, by the executor; printed by a program of mine. No condition. -/
import Derived.Test.YtaikpkhclnkkaaaTells2
set_option linter.unusedVariables false
set_option maxRecDepth 100000
set_option maxHeartbeats 4000000
namespace Go.Proofs.Ytaikpkhclnkkaaa
open Go Go.Ax

theorem vc_all (K : (List Spot) → Prop) (x : Cfg) : aexecF cnd cx noΓ (specAll x) 100 Try.f19 (codeOf Try.f19) (aCfg.enc x) [] (fun y R => rd cdSpots (settleA R y) K) = (
  (∃ (s0 : Nat), (↑s0 : Int) ≤ x.w ∧ (True ∧ EqA (AVal.int IntKind.i64 (0 : Int)) (AVal.int IntKind.i64 (↑s0 : Int)) ∧ True) ∧ (EqR (Res.cells (24 : Nat) [AVal.int
  IntKind.i64 x.w, AVal.int IntKind.i64 x.s, AVal.int IntKind.i64 x.b, AVal.int IntKind.i64 x.o, AVal.int IntKind.i64 x.e, AVal.int IntKind.i64 x.r, AVal.int IntKind.i64
  x.a, AVal.int IntKind.u64 x.l]) (Res.cells (24 : Nat) [AVal.int IntKind.i64 x.w, AVal.int IntKind.i64 x.s, AVal.int IntKind.i64 x.b, AVal.int IntKind.i64 x.o, AVal.int
  IntKind.i64 x.e, AVal.int IntKind.i64 x.r, AVal.int IntKind.i64 x.a, AVal.int IntKind.u64 x.l]) ∧ EqR (Res.vec (43 : Nat) [Spot.mk (0 : Int) (0 : Int) (0 : Int), Spot.mk
  (0 : Int) (1 : Int) (0 : Int), Spot.mk (0 : Int) (2 : Int) (0 : Int)]) (Res.vec (43 : Nat) (all1 x s0)) ∧ True) ∧ True) ∧ ∀ (s : Nat), (↑s : Int) ≤ x.w → cnd (decide ((↑s
  : Int) < x.w)) (((List.length (all1 x s) + List.length [Spot.mk (1 : Int) (↑s : Int) (0 : Int)]) * (24 : Nat) ≤ (140737488355328 : Nat) ∧ List.length (all1 x s) +
  List.length [Spot.mk (1 : Int) (↑s : Int) (0 : Int)] ≤ (140737488355328 : Nat)) ∧ ∃ (s' : Nat), (↑s' : Int) ≤ x.w ∧ Int.toNat x.w - s' < Int.toNat x.w - s ∧ (True ∧ EqA
  (AVal.int IntKind.i64 (IntKind.wrap IntKind.i64 ((↑s : Int) + (1 : Int)))) (AVal.int IntKind.i64 (↑s' : Int)) ∧ True) ∧ (EqR (Res.cells (24 : Nat) [AVal.int IntKind.i64
  x.w, AVal.int IntKind.i64 x.s, AVal.int IntKind.i64 x.b, AVal.int IntKind.i64 x.o, AVal.int IntKind.i64 x.e, AVal.int IntKind.i64 x.r, AVal.int IntKind.i64 x.a, AVal.int
  IntKind.u64 x.l]) (Res.cells (24 : Nat) [AVal.int IntKind.i64 x.w, AVal.int IntKind.i64 x.s, AVal.int IntKind.i64 x.b, AVal.int IntKind.i64 x.o, AVal.int IntKind.i64 x.e,
  AVal.int IntKind.i64 x.r, AVal.int IntKind.i64 x.a, AVal.int IntKind.u64 x.l]) ∧ EqR (Res.vec (43 : Nat) (all1 x s ++ [Spot.mk (1 : Int) (↑s : Int) (0 : Int)])) (Res.vec
  (43 : Nat) (all1 x s')) ∧ True) ∧ True) ((∃ (s0 : Nat), (↑s0 : Int) ≤ x.s ∧ (True ∧ EqA (AVal.int IntKind.i64 (0 : Int)) (AVal.int IntKind.i64 (↑s0 : Int)) ∧ True) ∧ (EqR
  (Res.cells (24 : Nat) [AVal.int IntKind.i64 x.w, AVal.int IntKind.i64 x.s, AVal.int IntKind.i64 x.b, AVal.int IntKind.i64 x.o, AVal.int IntKind.i64 x.e, AVal.int
  IntKind.i64 x.r, AVal.int IntKind.i64 x.a, AVal.int IntKind.u64 x.l]) (Res.cells (24 : Nat) [AVal.int IntKind.i64 x.w, AVal.int IntKind.i64 x.s, AVal.int IntKind.i64 x.b,
  AVal.int IntKind.i64 x.o, AVal.int IntKind.i64 x.e, AVal.int IntKind.i64 x.r, AVal.int IntKind.i64 x.a, AVal.int IntKind.u64 x.l]) ∧ EqR (Res.vec (43 : Nat) (all1 x s))
  (Res.vec (43 : Nat) (all2 x s0)) ∧ True) ∧ True) ∧ ∀ (s : Nat), (↑s : Int) ≤ x.s → cnd (decide ((↑s : Int) < x.s)) (((List.length (all2 x s) + List.length [Spot.mk (2 :
  Int) (↑s : Int) (0 : Int)]) * (24 : Nat) ≤ (140737488355328 : Nat) ∧ List.length (all2 x s) + List.length [Spot.mk (2 : Int) (↑s : Int) (0 : Int)] ≤ (140737488355328 :
  Nat)) ∧ ∃ (s' : Nat), (↑s' : Int) ≤ x.s ∧ Int.toNat x.s - s' < Int.toNat x.s - s ∧ (True ∧ EqA (AVal.int IntKind.i64 (IntKind.wrap IntKind.i64 ((↑s : Int) + (1 : Int))))
  (AVal.int IntKind.i64 (↑s' : Int)) ∧ True) ∧ (EqR (Res.cells (24 : Nat) [AVal.int IntKind.i64 x.w, AVal.int IntKind.i64 x.s, AVal.int IntKind.i64 x.b, AVal.int
  IntKind.i64 x.o, AVal.int IntKind.i64 x.e, AVal.int IntKind.i64 x.r, AVal.int IntKind.i64 x.a, AVal.int IntKind.u64 x.l]) (Res.cells (24 : Nat) [AVal.int IntKind.i64 x.w,
  AVal.int IntKind.i64 x.s, AVal.int IntKind.i64 x.b, AVal.int IntKind.i64 x.o, AVal.int IntKind.i64 x.e, AVal.int IntKind.i64 x.r, AVal.int IntKind.i64 x.a, AVal.int
  IntKind.u64 x.l]) ∧ EqR (Res.vec (43 : Nat) (all2 x s ++ [Spot.mk (2 : Int) (↑s : Int) (0 : Int)])) (Res.vec (43 : Nat) (all2 x s')) ∧ True) ∧ True) ((∃ (s0 : Nat), (↑s0
  : Int) ≤ x.e ∧ (True ∧ EqA (AVal.int IntKind.i64 (0 : Int)) (AVal.int IntKind.i64 (↑s0 : Int)) ∧ True) ∧ (EqR (Res.cells (24 : Nat) [AVal.int IntKind.i64 x.w, AVal.int
  IntKind.i64 x.s, AVal.int IntKind.i64 x.b, AVal.int IntKind.i64 x.o, AVal.int IntKind.i64 x.e, AVal.int IntKind.i64 x.r, AVal.int IntKind.i64 x.a, AVal.int IntKind.u64
  x.l]) (Res.cells (24 : Nat) [AVal.int IntKind.i64 x.w, AVal.int IntKind.i64 x.s, AVal.int IntKind.i64 x.b, AVal.int IntKind.i64 x.o, AVal.int IntKind.i64 x.e, AVal.int
  IntKind.i64 x.r, AVal.int IntKind.i64 x.a, AVal.int IntKind.u64 x.l]) ∧ EqR (Res.vec (43 : Nat) (all2 x s)) (Res.vec (43 : Nat) (all3 x s0)) ∧ True) ∧ True) ∧ ∀ (s :
  Nat), (↑s : Int) ≤ x.e → cnd (decide ((↑s : Int) < x.e)) (((List.length (all3 x s) + List.length [Spot.mk (3 : Int) (↑s : Int) (0 : Int), Spot.mk (4 : Int) (↑s : Int) (0
  : Int)]) * (24 : Nat) ≤ (140737488355328 : Nat) ∧ List.length (all3 x s) + List.length [Spot.mk (3 : Int) (↑s : Int) (0 : Int), Spot.mk (4 : Int) (↑s : Int) (0 : Int)] ≤
  (140737488355328 : Nat)) ∧ ∃ (s' : Nat), (↑s' : Int) ≤ x.e ∧ Int.toNat x.e - s' < Int.toNat x.e - s ∧ (True ∧ EqA (AVal.int IntKind.i64 (IntKind.wrap IntKind.i64 ((↑s :
  Int) + (1 : Int)))) (AVal.int IntKind.i64 (↑s' : Int)) ∧ True) ∧ (EqR (Res.cells (24 : Nat) [AVal.int IntKind.i64 x.w, AVal.int IntKind.i64 x.s, AVal.int IntKind.i64 x.b,
  AVal.int IntKind.i64 x.o, AVal.int IntKind.i64 x.e, AVal.int IntKind.i64 x.r, AVal.int IntKind.i64 x.a, AVal.int IntKind.u64 x.l]) (Res.cells (24 : Nat) [AVal.int
  IntKind.i64 x.w, AVal.int IntKind.i64 x.s, AVal.int IntKind.i64 x.b, AVal.int IntKind.i64 x.o, AVal.int IntKind.i64 x.e, AVal.int IntKind.i64 x.r, AVal.int IntKind.i64
  x.a, AVal.int IntKind.u64 x.l]) ∧ EqR (Res.vec (43 : Nat) (all3 x s ++ [Spot.mk (3 : Int) (↑s : Int) (0 : Int), Spot.mk (4 : Int) (↑s : Int) (0 : Int)])) (Res.vec (43 :
  Nat) (all3 x s')) ∧ True) ∧ True) ((∃ (s0 : Nat), (↑s0 : Int) ≤ x.s * x.b ∧ (True ∧ EqA (AVal.int IntKind.i64 (0 : Int)) (AVal.int IntKind.i64 (↑s0 : Int)) ∧ True) ∧ (EqR
  (Res.cells (24 : Nat) [AVal.int IntKind.i64 x.w, AVal.int IntKind.i64 x.s, AVal.int IntKind.i64 x.b, AVal.int IntKind.i64 x.o, AVal.int IntKind.i64 x.e, AVal.int
  IntKind.i64 x.r, AVal.int IntKind.i64 x.a, AVal.int IntKind.u64 x.l]) (Res.cells (24 : Nat) [AVal.int IntKind.i64 x.w, AVal.int IntKind.i64 x.s, AVal.int IntKind.i64 x.b,
  AVal.int IntKind.i64 x.o, AVal.int IntKind.i64 x.e, AVal.int IntKind.i64 x.r, AVal.int IntKind.i64 x.a, AVal.int IntKind.u64 x.l]) ∧ EqR (Res.vec (43 : Nat) (all3 x s))
  (Res.vec (43 : Nat) (all4 x s0)) ∧ True) ∧ True) ∧ ∀ (s : Nat), (↑s : Int) ≤ x.s * x.b → cnd (decide ((↑s : Int) < IntKind.wrap IntKind.i64 (x.s * x.b))) (((List.length
  (all4 x s) + List.length [Spot.mk (5 : Int) (↑s : Int) (0 : Int)]) * (24 : Nat) ≤ (140737488355328 : Nat) ∧ List.length (all4 x s) + List.length [Spot.mk (5 : Int) (↑s :
  Int) (0 : Int)] ≤ (140737488355328 : Nat)) ∧ (∃ (s0 : Nat), (↑s0 : Int) ≤ x.o ∧ (True ∧ EqA (AVal.int IntKind.i64 (0 : Int)) (AVal.int IntKind.i64 (↑s0 : Int)) ∧ True) ∧
  (EqR (Res.cells (24 : Nat) [AVal.int IntKind.i64 x.w, AVal.int IntKind.i64 x.s, AVal.int IntKind.i64 x.b, AVal.int IntKind.i64 x.o, AVal.int IntKind.i64 x.e, AVal.int
  IntKind.i64 x.r, AVal.int IntKind.i64 x.a, AVal.int IntKind.u64 x.l]) (Res.cells (24 : Nat) [AVal.int IntKind.i64 x.w, AVal.int IntKind.i64 x.s, AVal.int IntKind.i64 x.b,
  AVal.int IntKind.i64 x.o, AVal.int IntKind.i64 x.e, AVal.int IntKind.i64 x.r, AVal.int IntKind.i64 x.a, AVal.int IntKind.u64 x.l]) ∧ EqR (Res.vec (43 : Nat) [Spot.mk (5 :
  Int) (↑s : Int) (0 : Int)]) (Res.vec (43 : Nat) [Spot.mk (5 : Int) (↑s : Int) (0 : Int)]) ∧ EqR (Res.vec (43 : Nat) (all4 x s ++ [Spot.mk (5 : Int) (↑s : Int) (0 :
  Int)])) (Res.vec (43 : Nat) (all5 x s s0)) ∧ True) ∧ True) ∧ ∀ (s_1 : Nat), (↑s_1 : Int) ≤ x.o → cnd (decide ((↑s_1 : Int) < x.o)) (((List.length (all5 x s s_1) +
  List.length [Spot.mk (6 : Int) (↑s : Int) (↑s_1 : Int)]) * (24 : Nat) ≤ (140737488355328 : Nat) ∧ List.length (all5 x s s_1) + List.length [Spot.mk (6 : Int) (↑s : Int)
  (↑s_1 : Int)] ≤ (140737488355328 : Nat)) ∧ ∃ (s' : Nat), (↑s' : Int) ≤ x.o ∧ Int.toNat x.o - s' < Int.toNat x.o - s_1 ∧ (True ∧ EqA (AVal.int IntKind.i64 (IntKind.wrap
  IntKind.i64 ((↑s_1 : Int) + (1 : Int)))) (AVal.int IntKind.i64 (↑s' : Int)) ∧ True) ∧ (EqR (Res.cells (24 : Nat) [AVal.int IntKind.i64 x.w, AVal.int IntKind.i64 x.s,
  AVal.int IntKind.i64 x.b, AVal.int IntKind.i64 x.o, AVal.int IntKind.i64 x.e, AVal.int IntKind.i64 x.r, AVal.int IntKind.i64 x.a, AVal.int IntKind.u64 x.l]) (Res.cells
  (24 : Nat) [AVal.int IntKind.i64 x.w, AVal.int IntKind.i64 x.s, AVal.int IntKind.i64 x.b, AVal.int IntKind.i64 x.o, AVal.int IntKind.i64 x.e, AVal.int IntKind.i64 x.r,
  AVal.int IntKind.i64 x.a, AVal.int IntKind.u64 x.l]) ∧ EqR (Res.vec (43 : Nat) [Spot.mk (5 : Int) (↑s : Int) (0 : Int)]) (Res.vec (43 : Nat) [Spot.mk (5 : Int) (↑s : Int)
  (0 : Int)]) ∧ EqR (Res.vec (43 : Nat) (all5 x s s_1 ++ [Spot.mk (6 : Int) (↑s : Int) (↑s_1 : Int)])) (Res.vec (43 : Nat) (all5 x s s')) ∧ True) ∧ True) (∃ (s' : Nat),
  (↑s' : Int) ≤ x.s * x.b ∧ Int.toNat (x.s * x.b) - s' < Int.toNat (x.s * x.b) - s ∧ (True ∧ EqA (AVal.int IntKind.i64 (IntKind.wrap IntKind.i64 ((↑s : Int) + (1 : Int))))
  (AVal.int IntKind.i64 (↑s' : Int)) ∧ True) ∧ (EqR (Res.cells (24 : Nat) [AVal.int IntKind.i64 x.w, AVal.int IntKind.i64 x.s, AVal.int IntKind.i64 x.b, AVal.int
  IntKind.i64 x.o, AVal.int IntKind.i64 x.e, AVal.int IntKind.i64 x.r, AVal.int IntKind.i64 x.a, AVal.int IntKind.u64 x.l]) (Res.cells (24 : Nat) [AVal.int IntKind.i64 x.w,
  AVal.int IntKind.i64 x.s, AVal.int IntKind.i64 x.b, AVal.int IntKind.i64 x.o, AVal.int IntKind.i64 x.e, AVal.int IntKind.i64 x.r, AVal.int IntKind.i64 x.a, AVal.int
  IntKind.u64 x.l]) ∧ EqR (Res.vec (43 : Nat) (all5 x s s_1)) (Res.vec (43 : Nat) (all4 x s')) ∧ True) ∧ True)) (K (all4 x s)))))) := by kernel_rfl

theorem vc_rhome (K : AVal El → Prop) (x : Cfg) (i : Int) : aexecF cnd cx ΓH (specHome x i) 100 Try.f21 (codeOf Try.f21) (aCI.enc (x, i)) [] (fun y _ => K y) = ( True ∧
  cnd ((checkV x != (0 : Int)) == false) (cnd (decide (i < (0 : Int))) (K (AVal.int IntKind.i64 (-1 : Int))) ((∃ (s0 : Nat), ((↑s0 : Int) ≤ x.s ∧ homeF x.b i (Int.toNat
  x.s) (0 : Nat) = homeF x.b i (Int.toNat x.s - s0) s0) ∧ (EqA (AVal.int IntKind.i64 (0 : Int)) (AVal.int IntKind.i64 (↑s0 : Int)) ∧ True) ∧ (EqR (Res.cells (24 : Nat)
  [AVal.int IntKind.i64 x.w, AVal.int IntKind.i64 x.s, AVal.int IntKind.i64 x.b, AVal.int IntKind.i64 x.o, AVal.int IntKind.i64 x.e, AVal.int IntKind.i64 x.r, AVal.int
  IntKind.i64 x.a, AVal.int IntKind.u64 x.l]) (Res.cells (24 : Nat) [AVal.int IntKind.i64 x.w, AVal.int IntKind.i64 x.s, AVal.int IntKind.i64 x.b, AVal.int IntKind.i64 x.o,
  AVal.int IntKind.i64 x.e, AVal.int IntKind.i64 x.r, AVal.int IntKind.i64 x.a, AVal.int IntKind.u64 x.l]) ∧ True) ∧ True) ∧ ∀ (s : Nat), (↑s : Int) ≤ x.s ∧ homeF x.b i
  (Int.toNat x.s) (0 : Nat) = homeF x.b i (Int.toNat x.s - s) s → cnd (decide ((↑s : Int) < x.s)) (cnd (decide (i < IntKind.wrap IntKind.i64 (IntKind.wrap IntKind.i64 ((↑s
  : Int) + (1 : Int)) * x.b))) (K (AVal.int IntKind.i64 (↑s : Int))) (∃ (s' : Nat), ((↑s' : Int) ≤ x.s ∧ homeF x.b i (Int.toNat x.s) (0 : Nat) = homeF x.b i (Int.toNat x.s
  - s') s') ∧ Int.toNat x.s - s' < Int.toNat x.s - s ∧ (EqA (AVal.int IntKind.i64 (IntKind.wrap IntKind.i64 ((↑s : Int) + (1 : Int)))) (AVal.int IntKind.i64 (↑s' : Int)) ∧
  True) ∧ (EqR (Res.cells (24 : Nat) [AVal.int IntKind.i64 x.w, AVal.int IntKind.i64 x.s, AVal.int IntKind.i64 x.b, AVal.int IntKind.i64 x.o, AVal.int IntKind.i64 x.e,
  AVal.int IntKind.i64 x.r, AVal.int IntKind.i64 x.a, AVal.int IntKind.u64 x.l]) (Res.cells (24 : Nat) [AVal.int IntKind.i64 x.w, AVal.int IntKind.i64 x.s, AVal.int
  IntKind.i64 x.b, AVal.int IntKind.i64 x.o, AVal.int IntKind.i64 x.e, AVal.int IntKind.i64 x.r, AVal.int IntKind.i64 x.a, AVal.int IntKind.u64 x.l]) ∧ True) ∧ True)) (K
  (AVal.int IntKind.i64 (-1 : Int))))) (K (AVal.int IntKind.i64 (-1 : Int)))) := by kernel_rfl

theorem vc_ref_at (K : AVal El → Prop) (x : Cfg) (s : Spot) : aexecF cnd cx ΓH (specAt x s) 100 Try.f22 (codeOf Try.f22) (Cd.enc (.pair aCfg cdS) (x, s)) [] (fun y _ => K
  y) = ( True ∧ cnd (checkV x != (0 : Int)) (K (AVal.int IntKind.i64 (-1 : Int))) (checkV x = (0 : Int) ∧ (∃ (s0 : Nat), (s0 ≤ List.length (allV x) ∧ findS (allV x) s (0 :
  Nat) = findS (List.drop s0 (allV x)) s s0) ∧ (EqA (AVal.int IntKind.i64 (0 : Int)) (AVal.int IntKind.i64 (↑s0 : Int)) ∧ True) ∧ (EqR (Res.cells (24 : Nat) [AVal.int
  IntKind.i64 x.w, AVal.int IntKind.i64 x.s, AVal.int IntKind.i64 x.b, AVal.int IntKind.i64 x.o, AVal.int IntKind.i64 x.e, AVal.int IntKind.i64 x.r, AVal.int IntKind.i64
  x.a, AVal.int IntKind.u64 x.l]) (Res.cells (24 : Nat) [AVal.int IntKind.i64 x.w, AVal.int IntKind.i64 x.s, AVal.int IntKind.i64 x.b, AVal.int IntKind.i64 x.o, AVal.int
  IntKind.i64 x.e, AVal.int IntKind.i64 x.r, AVal.int IntKind.i64 x.a, AVal.int IntKind.u64 x.l]) ∧ EqR (Res.cells (43 : Nat) [AVal.int IntKind.i64 s.k, AVal.int
  IntKind.i64 s.a, AVal.int IntKind.i64 s.b]) (Res.cells (43 : Nat) [AVal.int IntKind.i64 s.k, AVal.int IntKind.i64 s.a, AVal.int IntKind.i64 s.b]) ∧ True) ∧ True) ∧ ∀ (s_1
  : Nat), s_1 ≤ List.length (allV x) ∧ findS (allV x) s (0 : Nat) = findS (List.drop s_1 (allV x)) s s_1 → cnd (decide ((↑s_1 : Int) < (↑(List.length (allV x)) : Int)))
  (((0 : Int) ≤ (↑s_1 : Int) ∧ (↑s_1 : Int) < (↑(List.length (allV x)) : Int)) ∧ cnd ((List.getD (allV x) (Int.toNat (↑s_1 : Int)) (Ytaikpkhclnkkaaa.K.dflt (tab (43 :
  TypeId)))).k == s.k && ((List.getD (allV x) (Int.toNat (↑s_1 : Int)) (Ytaikpkhclnkkaaa.K.dflt (tab (43 : TypeId)))).a == s.a && ((List.getD (allV x) (Int.toNat (↑s_1 :
  Int)) (Ytaikpkhclnkkaaa.K.dflt (tab (43 : TypeId)))).b == s.b && true))) (K (AVal.int IntKind.i64 (↑s_1 : Int))) (∃ (s' : Nat), (s' ≤ List.length (allV x) ∧ findS (allV
  x) s (0 : Nat) = findS (List.drop s' (allV x)) s s') ∧ List.length (allV x) - s' < List.length (allV x) - s_1 ∧ (EqA (AVal.int IntKind.i64 (IntKind.wrap IntKind.i64
  ((↑s_1 : Int) + (1 : Int)))) (AVal.int IntKind.i64 (↑s' : Int)) ∧ True) ∧ (EqR (Res.cells (24 : Nat) [AVal.int IntKind.i64 x.w, AVal.int IntKind.i64 x.s, AVal.int
  IntKind.i64 x.b, AVal.int IntKind.i64 x.o, AVal.int IntKind.i64 x.e, AVal.int IntKind.i64 x.r, AVal.int IntKind.i64 x.a, AVal.int IntKind.u64 x.l]) (Res.cells (24 : Nat)
  [AVal.int IntKind.i64 x.w, AVal.int IntKind.i64 x.s, AVal.int IntKind.i64 x.b, AVal.int IntKind.i64 x.o, AVal.int IntKind.i64 x.e, AVal.int IntKind.i64 x.r, AVal.int
  IntKind.i64 x.a, AVal.int IntKind.u64 x.l]) ∧ EqR (Res.cells (43 : Nat) [AVal.int IntKind.i64 s.k, AVal.int IntKind.i64 s.a, AVal.int IntKind.i64 s.b]) (Res.cells (43 :
  Nat) [AVal.int IntKind.i64 s.k, AVal.int IntKind.i64 s.a, AVal.int IntKind.i64 s.b]) ∧ True) ∧ True)) (K (AVal.int IntKind.i64 (-1 : Int))))) := by kernel_rfl


theorem vc_tells (K : AVal El → Prop) (x : Cfg) (a b : Int) : aexecF cnd cx ΓI noSpec 300 Try.f4 (codeOf Try.f4) (Cd.enc (.pair aCfg (.pair aI aI)) (x, a, b)) [] (fun y _
  => K y) = ( True ∧ True ∧ True ∧ True ∧ cnd ((checkV x != checkV x) == false) (cnd ((checkV x != checkV x) == false) (cnd ((checkV x != (0 : Int)) == true) (cnd (!((newV
  x).w == (0 : Int) && ((newV x).s == (0 : Int) && ((newV x).b == (0 : Int) && ((newV x).o == (0 : Int) && ((newV x).e == (0 : Int) && ((newV x).r == (0 : Int) && ((newV
  x).a == (0 : Int) && ((newV x).l == (0 : Int) && true))))))))) (K (AVal.bool false)) (cnd (checkV x == (0 : Int)) (checkV x = (0 : Int) ∧ True ∧ cnd ((sizeV x !=
  (↑(List.length (allV x)) : Int)) == false) (True ∧ cnd ((totalV x != IntKind.wrap IntKind.i64 (x.s * x.b)) == false) (True ∧ True ∧ cnd (homeV x a != homeR x a) (K
  (AVal.bool false)) (True ∧ True ∧ True ∧ True ∧ True ∧ True ∧ ((0 : Int) ≤ (0 : Int) ∧ (0 : Int) < (↑(List.length [announceV x a, slabV x a, entryV x a, entryLinkV x a,
  blockLinkV x a, wordV x a b]) : Int)) ∧ (0 : Nat) < List.length [announceV x a, slabV x a, entryV x a, entryLinkV x a, blockLinkV x a, wordV x a b] ∧ True ∧ cnd
  (List.getD [announceV x a, slabV x a, entryV x a, entryLinkV x a, blockLinkV x a, wordV x a b] (0 : Nat) (0 : Int) != atR x (Spot.mk (IntKind.wrap IntKind.i64 ((0 : Int)
  + (1 : Int))) a (0 : Int))) (K (AVal.bool false)) (((0 : Int) ≤ IntKind.wrap IntKind.i64 ((0 : Int) + (1 : Int)) ∧ IntKind.wrap IntKind.i64 ((0 : Int) + (1 : Int)) <
  (↑(List.length [announceV x a, slabV x a, entryV x a, entryLinkV x a, blockLinkV x a, wordV x a b]) : Int)) ∧ (1 : Nat) < List.length [announceV x a, slabV x a, entryV x
  a, entryLinkV x a, blockLinkV x a, wordV x a b] ∧ True ∧ cnd (List.getD [announceV x a, slabV x a, entryV x a, entryLinkV x a, blockLinkV x a, wordV x a b] (1 : Nat) (0 :
  Int) != atR x (Spot.mk (IntKind.wrap IntKind.i64 (IntKind.wrap IntKind.i64 ((0 : Int) + (1 : Int)) + (1 : Int))) a (0 : Int))) (K (AVal.bool false)) (((0 : Int) ≤
  IntKind.wrap IntKind.i64 (IntKind.wrap IntKind.i64 ((0 : Int) + (1 : Int)) + (1 : Int)) ∧ IntKind.wrap IntKind.i64 (IntKind.wrap IntKind.i64 ((0 : Int) + (1 : Int)) + (1
  : Int)) < (↑(List.length [announceV x a, slabV x a, entryV x a, entryLinkV x a, blockLinkV x a, wordV x a b]) : Int)) ∧ (2 : Nat) < List.length [announceV x a, slabV x a,
  entryV x a, entryLinkV x a, blockLinkV x a, wordV x a b] ∧ True ∧ cnd (List.getD [announceV x a, slabV x a, entryV x a, entryLinkV x a, blockLinkV x a, wordV x a b] (2 :
  Nat) (0 : Int) != atR x (Spot.mk (IntKind.wrap IntKind.i64 (IntKind.wrap IntKind.i64 (IntKind.wrap IntKind.i64 ((0 : Int) + (1 : Int)) + (1 : Int)) + (1 : Int))) a (0 :
  Int))) (K (AVal.bool false)) (((0 : Int) ≤ IntKind.wrap IntKind.i64 (IntKind.wrap IntKind.i64 (IntKind.wrap IntKind.i64 ((0 : Int) + (1 : Int)) + (1 : Int)) + (1 : Int))
  ∧ IntKind.wrap IntKind.i64 (IntKind.wrap IntKind.i64 (IntKind.wrap IntKind.i64 ((0 : Int) + (1 : Int)) + (1 : Int)) + (1 : Int)) < (↑(List.length [announceV x a, slabV x
  a, entryV x a, entryLinkV x a, blockLinkV x a, wordV x a b]) : Int)) ∧ (3 : Nat) < List.length [announceV x a, slabV x a, entryV x a, entryLinkV x a, blockLinkV x a,
  wordV x a b] ∧ True ∧ cnd (List.getD [announceV x a, slabV x a, entryV x a, entryLinkV x a, blockLinkV x a, wordV x a b] (3 : Nat) (0 : Int) != atR x (Spot.mk
  (IntKind.wrap IntKind.i64 (IntKind.wrap IntKind.i64 (IntKind.wrap IntKind.i64 (IntKind.wrap IntKind.i64 ((0 : Int) + (1 : Int)) + (1 : Int)) + (1 : Int)) + (1 : Int))) a
  (0 : Int))) (K (AVal.bool false)) (((0 : Int) ≤ IntKind.wrap IntKind.i64 (IntKind.wrap IntKind.i64 (IntKind.wrap IntKind.i64 (IntKind.wrap IntKind.i64 ((0 : Int) + (1 :
  Int)) + (1 : Int)) + (1 : Int)) + (1 : Int)) ∧ IntKind.wrap IntKind.i64 (IntKind.wrap IntKind.i64 (IntKind.wrap IntKind.i64 (IntKind.wrap IntKind.i64 ((0 : Int) + (1 :
  Int)) + (1 : Int)) + (1 : Int)) + (1 : Int)) < (↑(List.length [announceV x a, slabV x a, entryV x a, entryLinkV x a, blockLinkV x a, wordV x a b]) : Int)) ∧ (4 : Nat) <
  List.length [announceV x a, slabV x a, entryV x a, entryLinkV x a, blockLinkV x a, wordV x a b] ∧ True ∧ cnd (List.getD [announceV x a, slabV x a, entryV x a, entryLinkV
  x a, blockLinkV x a, wordV x a b] (4 : Nat) (0 : Int) != atR x (Spot.mk (IntKind.wrap IntKind.i64 (IntKind.wrap IntKind.i64 (IntKind.wrap IntKind.i64 (IntKind.wrap
  IntKind.i64 (IntKind.wrap IntKind.i64 ((0 : Int) + (1 : Int)) + (1 : Int)) + (1 : Int)) + (1 : Int)) + (1 : Int))) a (0 : Int))) (K (AVal.bool false)) (((0 : Int) ≤
  IntKind.wrap IntKind.i64 (IntKind.wrap IntKind.i64 (IntKind.wrap IntKind.i64 (IntKind.wrap IntKind.i64 (IntKind.wrap IntKind.i64 ((0 : Int) + (1 : Int)) + (1 : Int)) + (1
  : Int)) + (1 : Int)) + (1 : Int)) ∧ IntKind.wrap IntKind.i64 (IntKind.wrap IntKind.i64 (IntKind.wrap IntKind.i64 (IntKind.wrap IntKind.i64 (IntKind.wrap IntKind.i64 ((0 :
  Int) + (1 : Int)) + (1 : Int)) + (1 : Int)) + (1 : Int)) + (1 : Int)) < (↑(List.length [announceV x a, slabV x a, entryV x a, entryLinkV x a, blockLinkV x a, wordV x a
  b]) : Int)) ∧ (5 : Nat) < List.length [announceV x a, slabV x a, entryV x a, entryLinkV x a, blockLinkV x a, wordV x a b] ∧ True ∧ cnd (List.getD [announceV x a, slabV x
  a, entryV x a, entryLinkV x a, blockLinkV x a, wordV x a b] (5 : Nat) (0 : Int) != atR x (Spot.mk (IntKind.wrap IntKind.i64 (IntKind.wrap IntKind.i64 (IntKind.wrap
  IntKind.i64 (IntKind.wrap IntKind.i64 (IntKind.wrap IntKind.i64 (IntKind.wrap IntKind.i64 ((0 : Int) + (1 : Int)) + (1 : Int)) + (1 : Int)) + (1 : Int)) + (1 : Int)) + (1
  : Int))) a b)) (K (AVal.bool false)) (K (AVal.bool true))))))))) (K (AVal.bool false))) (K (AVal.bool false))) (True ∧ cnd ((sizeV x != (0 : Int)) == false) (True ∧ cnd
  ((totalV x != (0 : Int)) == false) (True ∧ True ∧ cnd (homeV x a != homeR x a) (K (AVal.bool false)) (True ∧ True ∧ True ∧ True ∧ True ∧ True ∧ ((0 : Int) ≤ (0 : Int) ∧
  (0 : Int) < (↑(List.length [announceV x a, slabV x a, entryV x a, entryLinkV x a, blockLinkV x a, wordV x a b]) : Int)) ∧ (0 : Nat) < List.length [announceV x a, slabV x
  a, entryV x a, entryLinkV x a, blockLinkV x a, wordV x a b] ∧ True ∧ cnd (List.getD [announceV x a, slabV x a, entryV x a, entryLinkV x a, blockLinkV x a, wordV x a b] (0
  : Nat) (0 : Int) != atR x (Spot.mk (IntKind.wrap IntKind.i64 ((0 : Int) + (1 : Int))) a (0 : Int))) (K (AVal.bool false)) (((0 : Int) ≤ IntKind.wrap IntKind.i64 ((0 :
  Int) + (1 : Int)) ∧ IntKind.wrap IntKind.i64 ((0 : Int) + (1 : Int)) < (↑(List.length [announceV x a, slabV x a, entryV x a, entryLinkV x a, blockLinkV x a, wordV x a b])
  : Int)) ∧ (1 : Nat) < List.length [announceV x a, slabV x a, entryV x a, entryLinkV x a, blockLinkV x a, wordV x a b] ∧ True ∧ cnd (List.getD [announceV x a, slabV x a,
  entryV x a, entryLinkV x a, blockLinkV x a, wordV x a b] (1 : Nat) (0 : Int) != atR x (Spot.mk (IntKind.wrap IntKind.i64 (IntKind.wrap IntKind.i64 ((0 : Int) + (1 : Int))
  + (1 : Int))) a (0 : Int))) (K (AVal.bool false)) (((0 : Int) ≤ IntKind.wrap IntKind.i64 (IntKind.wrap IntKind.i64 ((0 : Int) + (1 : Int)) + (1 : Int)) ∧ IntKind.wrap
  IntKind.i64 (IntKind.wrap IntKind.i64 ((0 : Int) + (1 : Int)) + (1 : Int)) < (↑(List.length [announceV x a, slabV x a, entryV x a, entryLinkV x a, blockLinkV x a, wordV x
  a b]) : Int)) ∧ (2 : Nat) < List.length [announceV x a, slabV x a, entryV x a, entryLinkV x a, blockLinkV x a, wordV x a b] ∧ True ∧ cnd (List.getD [announceV x a, slabV
  x a, entryV x a, entryLinkV x a, blockLinkV x a, wordV x a b] (2 : Nat) (0 : Int) != atR x (Spot.mk (IntKind.wrap IntKind.i64 (IntKind.wrap IntKind.i64 (IntKind.wrap
  IntKind.i64 ((0 : Int) + (1 : Int)) + (1 : Int)) + (1 : Int))) a (0 : Int))) (K (AVal.bool false)) (((0 : Int) ≤ IntKind.wrap IntKind.i64 (IntKind.wrap IntKind.i64
  (IntKind.wrap IntKind.i64 ((0 : Int) + (1 : Int)) + (1 : Int)) + (1 : Int)) ∧ IntKind.wrap IntKind.i64 (IntKind.wrap IntKind.i64 (IntKind.wrap IntKind.i64 ((0 : Int) + (1
  : Int)) + (1 : Int)) + (1 : Int)) < (↑(List.length [announceV x a, slabV x a, entryV x a, entryLinkV x a, blockLinkV x a, wordV x a b]) : Int)) ∧ (3 : Nat) < List.length
  [announceV x a, slabV x a, entryV x a, entryLinkV x a, blockLinkV x a, wordV x a b] ∧ True ∧ cnd (List.getD [announceV x a, slabV x a, entryV x a, entryLinkV x a,
  blockLinkV x a, wordV x a b] (3 : Nat) (0 : Int) != atR x (Spot.mk (IntKind.wrap IntKind.i64 (IntKind.wrap IntKind.i64 (IntKind.wrap IntKind.i64 (IntKind.wrap IntKind.i64
  ((0 : Int) + (1 : Int)) + (1 : Int)) + (1 : Int)) + (1 : Int))) a (0 : Int))) (K (AVal.bool false)) (((0 : Int) ≤ IntKind.wrap IntKind.i64 (IntKind.wrap IntKind.i64
  (IntKind.wrap IntKind.i64 (IntKind.wrap IntKind.i64 ((0 : Int) + (1 : Int)) + (1 : Int)) + (1 : Int)) + (1 : Int)) ∧ IntKind.wrap IntKind.i64 (IntKind.wrap IntKind.i64
  (IntKind.wrap IntKind.i64 (IntKind.wrap IntKind.i64 ((0 : Int) + (1 : Int)) + (1 : Int)) + (1 : Int)) + (1 : Int)) < (↑(List.length [announceV x a, slabV x a, entryV x a,
  entryLinkV x a, blockLinkV x a, wordV x a b]) : Int)) ∧ (4 : Nat) < List.length [announceV x a, slabV x a, entryV x a, entryLinkV x a, blockLinkV x a, wordV x a b] ∧ True
  ∧ cnd (List.getD [announceV x a, slabV x a, entryV x a, entryLinkV x a, blockLinkV x a, wordV x a b] (4 : Nat) (0 : Int) != atR x (Spot.mk (IntKind.wrap IntKind.i64
  (IntKind.wrap IntKind.i64 (IntKind.wrap IntKind.i64 (IntKind.wrap IntKind.i64 (IntKind.wrap IntKind.i64 ((0 : Int) + (1 : Int)) + (1 : Int)) + (1 : Int)) + (1 : Int)) +
  (1 : Int))) a (0 : Int))) (K (AVal.bool false)) (((0 : Int) ≤ IntKind.wrap IntKind.i64 (IntKind.wrap IntKind.i64 (IntKind.wrap IntKind.i64 (IntKind.wrap IntKind.i64
  (IntKind.wrap IntKind.i64 ((0 : Int) + (1 : Int)) + (1 : Int)) + (1 : Int)) + (1 : Int)) + (1 : Int)) ∧ IntKind.wrap IntKind.i64 (IntKind.wrap IntKind.i64 (IntKind.wrap
  IntKind.i64 (IntKind.wrap IntKind.i64 (IntKind.wrap IntKind.i64 ((0 : Int) + (1 : Int)) + (1 : Int)) + (1 : Int)) + (1 : Int)) + (1 : Int)) < (↑(List.length [announceV x
  a, slabV x a, entryV x a, entryLinkV x a, blockLinkV x a, wordV x a b]) : Int)) ∧ (5 : Nat) < List.length [announceV x a, slabV x a, entryV x a, entryLinkV x a,
  blockLinkV x a, wordV x a b] ∧ True ∧ cnd (List.getD [announceV x a, slabV x a, entryV x a, entryLinkV x a, blockLinkV x a, wordV x a b] (5 : Nat) (0 : Int) != atR x
  (Spot.mk (IntKind.wrap IntKind.i64 (IntKind.wrap IntKind.i64 (IntKind.wrap IntKind.i64 (IntKind.wrap IntKind.i64 (IntKind.wrap IntKind.i64 (IntKind.wrap IntKind.i64 ((0 :
  Int) + (1 : Int)) + (1 : Int)) + (1 : Int)) + (1 : Int)) + (1 : Int)) + (1 : Int))) a b)) (K (AVal.bool false)) (K (AVal.bool true))))))))) (K (AVal.bool false))) (K
  (AVal.bool false))))) (cnd (checkV x == (0 : Int)) (checkV x = (0 : Int) ∧ True ∧ cnd ((sizeV x != (↑(List.length (allV x)) : Int)) == false) (True ∧ cnd ((totalV x !=
  IntKind.wrap IntKind.i64 (x.s * x.b)) == false) (True ∧ True ∧ cnd (homeV x a != homeR x a) (K (AVal.bool false)) (True ∧ True ∧ True ∧ True ∧ True ∧ True ∧ ((0 : Int) ≤
  (0 : Int) ∧ (0 : Int) < (↑(List.length [announceV x a, slabV x a, entryV x a, entryLinkV x a, blockLinkV x a, wordV x a b]) : Int)) ∧ (0 : Nat) < List.length [announceV x
  a, slabV x a, entryV x a, entryLinkV x a, blockLinkV x a, wordV x a b] ∧ True ∧ cnd (List.getD [announceV x a, slabV x a, entryV x a, entryLinkV x a, blockLinkV x a,
  wordV x a b] (0 : Nat) (0 : Int) != atR x (Spot.mk (IntKind.wrap IntKind.i64 ((0 : Int) + (1 : Int))) a (0 : Int))) (K (AVal.bool false)) (((0 : Int) ≤ IntKind.wrap
  IntKind.i64 ((0 : Int) + (1 : Int)) ∧ IntKind.wrap IntKind.i64 ((0 : Int) + (1 : Int)) < (↑(List.length [announceV x a, slabV x a, entryV x a, entryLinkV x a, blockLinkV
  x a, wordV x a b]) : Int)) ∧ (1 : Nat) < List.length [announceV x a, slabV x a, entryV x a, entryLinkV x a, blockLinkV x a, wordV x a b] ∧ True ∧ cnd (List.getD
  [announceV x a, slabV x a, entryV x a, entryLinkV x a, blockLinkV x a, wordV x a b] (1 : Nat) (0 : Int) != atR x (Spot.mk (IntKind.wrap IntKind.i64 (IntKind.wrap
  IntKind.i64 ((0 : Int) + (1 : Int)) + (1 : Int))) a (0 : Int))) (K (AVal.bool false)) (((0 : Int) ≤ IntKind.wrap IntKind.i64 (IntKind.wrap IntKind.i64 ((0 : Int) + (1 :
  Int)) + (1 : Int)) ∧ IntKind.wrap IntKind.i64 (IntKind.wrap IntKind.i64 ((0 : Int) + (1 : Int)) + (1 : Int)) < (↑(List.length [announceV x a, slabV x a, entryV x a,
  entryLinkV x a, blockLinkV x a, wordV x a b]) : Int)) ∧ (2 : Nat) < List.length [announceV x a, slabV x a, entryV x a, entryLinkV x a, blockLinkV x a, wordV x a b] ∧ True
  ∧ cnd (List.getD [announceV x a, slabV x a, entryV x a, entryLinkV x a, blockLinkV x a, wordV x a b] (2 : Nat) (0 : Int) != atR x (Spot.mk (IntKind.wrap IntKind.i64
  (IntKind.wrap IntKind.i64 (IntKind.wrap IntKind.i64 ((0 : Int) + (1 : Int)) + (1 : Int)) + (1 : Int))) a (0 : Int))) (K (AVal.bool false)) (((0 : Int) ≤ IntKind.wrap
  IntKind.i64 (IntKind.wrap IntKind.i64 (IntKind.wrap IntKind.i64 ((0 : Int) + (1 : Int)) + (1 : Int)) + (1 : Int)) ∧ IntKind.wrap IntKind.i64 (IntKind.wrap IntKind.i64
  (IntKind.wrap IntKind.i64 ((0 : Int) + (1 : Int)) + (1 : Int)) + (1 : Int)) < (↑(List.length [announceV x a, slabV x a, entryV x a, entryLinkV x a, blockLinkV x a, wordV
  x a b]) : Int)) ∧ (3 : Nat) < List.length [announceV x a, slabV x a, entryV x a, entryLinkV x a, blockLinkV x a, wordV x a b] ∧ True ∧ cnd (List.getD [announceV x a,
  slabV x a, entryV x a, entryLinkV x a, blockLinkV x a, wordV x a b] (3 : Nat) (0 : Int) != atR x (Spot.mk (IntKind.wrap IntKind.i64 (IntKind.wrap IntKind.i64
  (IntKind.wrap IntKind.i64 (IntKind.wrap IntKind.i64 ((0 : Int) + (1 : Int)) + (1 : Int)) + (1 : Int)) + (1 : Int))) a (0 : Int))) (K (AVal.bool false)) (((0 : Int) ≤
  IntKind.wrap IntKind.i64 (IntKind.wrap IntKind.i64 (IntKind.wrap IntKind.i64 (IntKind.wrap IntKind.i64 ((0 : Int) + (1 : Int)) + (1 : Int)) + (1 : Int)) + (1 : Int)) ∧
  IntKind.wrap IntKind.i64 (IntKind.wrap IntKind.i64 (IntKind.wrap IntKind.i64 (IntKind.wrap IntKind.i64 ((0 : Int) + (1 : Int)) + (1 : Int)) + (1 : Int)) + (1 : Int)) <
  (↑(List.length [announceV x a, slabV x a, entryV x a, entryLinkV x a, blockLinkV x a, wordV x a b]) : Int)) ∧ (4 : Nat) < List.length [announceV x a, slabV x a, entryV x
  a, entryLinkV x a, blockLinkV x a, wordV x a b] ∧ True ∧ cnd (List.getD [announceV x a, slabV x a, entryV x a, entryLinkV x a, blockLinkV x a, wordV x a b] (4 : Nat) (0 :
  Int) != atR x (Spot.mk (IntKind.wrap IntKind.i64 (IntKind.wrap IntKind.i64 (IntKind.wrap IntKind.i64 (IntKind.wrap IntKind.i64 (IntKind.wrap IntKind.i64 ((0 : Int) + (1 :
  Int)) + (1 : Int)) + (1 : Int)) + (1 : Int)) + (1 : Int))) a (0 : Int))) (K (AVal.bool false)) (((0 : Int) ≤ IntKind.wrap IntKind.i64 (IntKind.wrap IntKind.i64
  (IntKind.wrap IntKind.i64 (IntKind.wrap IntKind.i64 (IntKind.wrap IntKind.i64 ((0 : Int) + (1 : Int)) + (1 : Int)) + (1 : Int)) + (1 : Int)) + (1 : Int)) ∧ IntKind.wrap
  IntKind.i64 (IntKind.wrap IntKind.i64 (IntKind.wrap IntKind.i64 (IntKind.wrap IntKind.i64 (IntKind.wrap IntKind.i64 ((0 : Int) + (1 : Int)) + (1 : Int)) + (1 : Int)) + (1
  : Int)) + (1 : Int)) < (↑(List.length [announceV x a, slabV x a, entryV x a, entryLinkV x a, blockLinkV x a, wordV x a b]) : Int)) ∧ (5 : Nat) < List.length [announceV x
  a, slabV x a, entryV x a, entryLinkV x a, blockLinkV x a, wordV x a b] ∧ True ∧ cnd (List.getD [announceV x a, slabV x a, entryV x a, entryLinkV x a, blockLinkV x a,
  wordV x a b] (5 : Nat) (0 : Int) != atR x (Spot.mk (IntKind.wrap IntKind.i64 (IntKind.wrap IntKind.i64 (IntKind.wrap IntKind.i64 (IntKind.wrap IntKind.i64 (IntKind.wrap
  IntKind.i64 (IntKind.wrap IntKind.i64 ((0 : Int) + (1 : Int)) + (1 : Int)) + (1 : Int)) + (1 : Int)) + (1 : Int)) + (1 : Int))) a b)) (K (AVal.bool false)) (K (AVal.bool
  true))))))))) (K (AVal.bool false))) (K (AVal.bool false))) (True ∧ cnd ((sizeV x != (0 : Int)) == false) (True ∧ cnd ((totalV x != (0 : Int)) == false) (True ∧ True ∧
  cnd (homeV x a != homeR x a) (K (AVal.bool false)) (True ∧ True ∧ True ∧ True ∧ True ∧ True ∧ ((0 : Int) ≤ (0 : Int) ∧ (0 : Int) < (↑(List.length [announceV x a, slabV x
  a, entryV x a, entryLinkV x a, blockLinkV x a, wordV x a b]) : Int)) ∧ (0 : Nat) < List.length [announceV x a, slabV x a, entryV x a, entryLinkV x a, blockLinkV x a,
  wordV x a b] ∧ True ∧ cnd (List.getD [announceV x a, slabV x a, entryV x a, entryLinkV x a, blockLinkV x a, wordV x a b] (0 : Nat) (0 : Int) != atR x (Spot.mk
  (IntKind.wrap IntKind.i64 ((0 : Int) + (1 : Int))) a (0 : Int))) (K (AVal.bool false)) (((0 : Int) ≤ IntKind.wrap IntKind.i64 ((0 : Int) + (1 : Int)) ∧ IntKind.wrap
  IntKind.i64 ((0 : Int) + (1 : Int)) < (↑(List.length [announceV x a, slabV x a, entryV x a, entryLinkV x a, blockLinkV x a, wordV x a b]) : Int)) ∧ (1 : Nat) <
  List.length [announceV x a, slabV x a, entryV x a, entryLinkV x a, blockLinkV x a, wordV x a b] ∧ True ∧ cnd (List.getD [announceV x a, slabV x a, entryV x a, entryLinkV
  x a, blockLinkV x a, wordV x a b] (1 : Nat) (0 : Int) != atR x (Spot.mk (IntKind.wrap IntKind.i64 (IntKind.wrap IntKind.i64 ((0 : Int) + (1 : Int)) + (1 : Int))) a (0 :
  Int))) (K (AVal.bool false)) (((0 : Int) ≤ IntKind.wrap IntKind.i64 (IntKind.wrap IntKind.i64 ((0 : Int) + (1 : Int)) + (1 : Int)) ∧ IntKind.wrap IntKind.i64
  (IntKind.wrap IntKind.i64 ((0 : Int) + (1 : Int)) + (1 : Int)) < (↑(List.length [announceV x a, slabV x a, entryV x a, entryLinkV x a, blockLinkV x a, wordV x a b]) :
  Int)) ∧ (2 : Nat) < List.length [announceV x a, slabV x a, entryV x a, entryLinkV x a, blockLinkV x a, wordV x a b] ∧ True ∧ cnd (List.getD [announceV x a, slabV x a,
  entryV x a, entryLinkV x a, blockLinkV x a, wordV x a b] (2 : Nat) (0 : Int) != atR x (Spot.mk (IntKind.wrap IntKind.i64 (IntKind.wrap IntKind.i64 (IntKind.wrap
  IntKind.i64 ((0 : Int) + (1 : Int)) + (1 : Int)) + (1 : Int))) a (0 : Int))) (K (AVal.bool false)) (((0 : Int) ≤ IntKind.wrap IntKind.i64 (IntKind.wrap IntKind.i64
  (IntKind.wrap IntKind.i64 ((0 : Int) + (1 : Int)) + (1 : Int)) + (1 : Int)) ∧ IntKind.wrap IntKind.i64 (IntKind.wrap IntKind.i64 (IntKind.wrap IntKind.i64 ((0 : Int) + (1
  : Int)) + (1 : Int)) + (1 : Int)) < (↑(List.length [announceV x a, slabV x a, entryV x a, entryLinkV x a, blockLinkV x a, wordV x a b]) : Int)) ∧ (3 : Nat) < List.length
  [announceV x a, slabV x a, entryV x a, entryLinkV x a, blockLinkV x a, wordV x a b] ∧ True ∧ cnd (List.getD [announceV x a, slabV x a, entryV x a, entryLinkV x a,
  blockLinkV x a, wordV x a b] (3 : Nat) (0 : Int) != atR x (Spot.mk (IntKind.wrap IntKind.i64 (IntKind.wrap IntKind.i64 (IntKind.wrap IntKind.i64 (IntKind.wrap IntKind.i64
  ((0 : Int) + (1 : Int)) + (1 : Int)) + (1 : Int)) + (1 : Int))) a (0 : Int))) (K (AVal.bool false)) (((0 : Int) ≤ IntKind.wrap IntKind.i64 (IntKind.wrap IntKind.i64
  (IntKind.wrap IntKind.i64 (IntKind.wrap IntKind.i64 ((0 : Int) + (1 : Int)) + (1 : Int)) + (1 : Int)) + (1 : Int)) ∧ IntKind.wrap IntKind.i64 (IntKind.wrap IntKind.i64
  (IntKind.wrap IntKind.i64 (IntKind.wrap IntKind.i64 ((0 : Int) + (1 : Int)) + (1 : Int)) + (1 : Int)) + (1 : Int)) < (↑(List.length [announceV x a, slabV x a, entryV x a,
  entryLinkV x a, blockLinkV x a, wordV x a b]) : Int)) ∧ (4 : Nat) < List.length [announceV x a, slabV x a, entryV x a, entryLinkV x a, blockLinkV x a, wordV x a b] ∧ True
  ∧ cnd (List.getD [announceV x a, slabV x a, entryV x a, entryLinkV x a, blockLinkV x a, wordV x a b] (4 : Nat) (0 : Int) != atR x (Spot.mk (IntKind.wrap IntKind.i64
  (IntKind.wrap IntKind.i64 (IntKind.wrap IntKind.i64 (IntKind.wrap IntKind.i64 (IntKind.wrap IntKind.i64 ((0 : Int) + (1 : Int)) + (1 : Int)) + (1 : Int)) + (1 : Int)) +
  (1 : Int))) a (0 : Int))) (K (AVal.bool false)) (((0 : Int) ≤ IntKind.wrap IntKind.i64 (IntKind.wrap IntKind.i64 (IntKind.wrap IntKind.i64 (IntKind.wrap IntKind.i64
  (IntKind.wrap IntKind.i64 ((0 : Int) + (1 : Int)) + (1 : Int)) + (1 : Int)) + (1 : Int)) + (1 : Int)) ∧ IntKind.wrap IntKind.i64 (IntKind.wrap IntKind.i64 (IntKind.wrap
  IntKind.i64 (IntKind.wrap IntKind.i64 (IntKind.wrap IntKind.i64 ((0 : Int) + (1 : Int)) + (1 : Int)) + (1 : Int)) + (1 : Int)) + (1 : Int)) < (↑(List.length [announceV x
  a, slabV x a, entryV x a, entryLinkV x a, blockLinkV x a, wordV x a b]) : Int)) ∧ (5 : Nat) < List.length [announceV x a, slabV x a, entryV x a, entryLinkV x a,
  blockLinkV x a, wordV x a b] ∧ True ∧ cnd (List.getD [announceV x a, slabV x a, entryV x a, entryLinkV x a, blockLinkV x a, wordV x a b] (5 : Nat) (0 : Int) != atR x
  (Spot.mk (IntKind.wrap IntKind.i64 (IntKind.wrap IntKind.i64 (IntKind.wrap IntKind.i64 (IntKind.wrap IntKind.i64 (IntKind.wrap IntKind.i64 (IntKind.wrap IntKind.i64 ((0 :
  Int) + (1 : Int)) + (1 : Int)) + (1 : Int)) + (1 : Int)) + (1 : Int)) + (1 : Int))) a b)) (K (AVal.bool false)) (K (AVal.bool true))))))))) (K (AVal.bool false))) (K
  (AVal.bool false))))) False) False) := by kernel_rfl

end Go.Proofs.Ytaikpkhclnkkaaa
