/- What the statement PlanFirst and its functions come to, by the executor; printed by a program of mine. No condition. -/
import Derived.Test.YtaikpkhclnkkaaaFirst
set_option linter.unusedVariables false
set_option maxRecDepth 100000
set_option maxHeartbeats 4000000
namespace Go.Proofs.Ytaikpkhclnkkaaa
open Go Go.Ax

theorem vc_head (K : AVal El → Prop) (a b : Int) : aexecF cnd cx noΓ noSpec 100 Try.f30 (codeOf Try.f30) (Cd.enc (.pair aI aU) (a, b)) [] (fun y _ => K y) = ( (0 : Int) ≤
  (32 : Int) ∧ K (AVal.int IntKind.u64 (bits BinOp.or IntKind.u64 (IntKind.wrap IntKind.u64 (b * (4294967296 : Int))) (IntKind.wrap IntKind.u64 (IntKind.wrap IntKind.u32
  (IntKind.wrap IntKind.i64 (a + (1 : Int)))))))) := by kernel_rfl

theorem vc_pentry (K : AVal El → Prop) (a b d : Int) : aexecF cnd cx noΓ noSpec 100 Try.f31 (codeOf Try.f31) (Cd.enc (.pair aU (.pair aI aI)) (a, b, d)) [] (fun y _ => K
  y) = ( (0 : Int) ≤ (20 : Int) ∧ (0 : Int) ≤ (4 : Int) ∧ (0 : Int) ≤ (4 : Int) ∧ (0 : Int) ≤ (4 : Int) ∧ K (AVal.int IntKind.u64 (bits BinOp.or IntKind.u64 (bits BinOp.or
  IntKind.u64 (IntKind.wrap IntKind.u64 (a * (1048576 : Int))) (IntKind.wrap IntKind.u64 (IntKind.wrap IntKind.u64 (IntKind.wrap IntKind.u16 (IntKind.wrap IntKind.i64 (b +
  (1 : Int)))) * (16 : Int)))) (IntKind.wrap IntKind.u64 (Int.fdiv (IntKind.wrap IntKind.u8 (IntKind.wrap IntKind.u8 d * (16 : Int))) (16 : Int)))))) := by kernel_rfl

theorem vc_first (K : List Int → Prop) (x : Cfg) : aexecF cnd cx ΓP (specFirst x) 100 Try.f23 (codeOf Try.f23) (aCfg.enc x) [] (fun y R => rdV 22 R y K) = ( True ∧ cnd
  (checkV x != (0 : Int)) (K []) (True ∧ ((0 : Int) ≤ sizeV (newV x) ∧ sizeV (newV x) = sizeV (newV x) ∧ (↑(8 : Nat) : Int) * sizeV (newV x) ≤ (140737488355328 : Int) ∧
  sizeV (newV x) ≤ (140737488355328 : Int)) ∧ ((0 : Int), (0 : Int)) = ((0 : Int), (0 : Int)) ∧ ((0 : Int) ≤ (0 : Int) ∧ (0 : Int) < (↑(List.length (List.replicate
  (Int.toNat (sizeV (newV x))) (0 : Int))) : Int)) ∧ (0 : Nat) < List.length (List.replicate (Int.toNat (sizeV (newV x))) (0 : Int)) ∧ ((0 : Int) ≤ (2 : Int) ∧ (2 : Int) <
  (↑(List.length (List.set (List.replicate (Int.toNat (sizeV (newV x))) (0 : Int)) (0 : Nat) (2 : Int))) : Int)) ∧ (2 : Nat) < List.length (List.set (List.replicate
  (Int.toNat (sizeV (newV x))) (0 : Int)) (0 : Nat) (2 : Int)) ∧ (∃ (s0 : Nat), (↑s0 : Int) ≤ x.e ∧ (EqA (AVal.int IntKind.i64 (0 : Int)) (AVal.int IntKind.i64 (↑s0 : Int))
  ∧ True) ∧ (EqR (Res.cells (24 : Nat) [AVal.int IntKind.i64 x.w, AVal.int IntKind.i64 x.s, AVal.int IntKind.i64 x.b, AVal.int IntKind.i64 x.o, AVal.int IntKind.i64 x.e,
  AVal.int IntKind.i64 x.r, AVal.int IntKind.i64 x.a, AVal.int IntKind.u64 x.l]) (Res.cells (24 : Nat) [AVal.int IntKind.i64 x.w, AVal.int IntKind.i64 x.s, AVal.int
  IntKind.i64 x.b, AVal.int IntKind.i64 x.o, AVal.int IntKind.i64 x.e, AVal.int IntKind.i64 x.r, AVal.int IntKind.i64 x.a, AVal.int IntKind.u64 x.l]) ∧ EqR (Res.cells (27 :
  Nat) [AVal.int IntKind.i64 (newV x).w, AVal.int IntKind.i64 (newV x).s, AVal.int IntKind.i64 (newV x).b, AVal.int IntKind.i64 (newV x).o, AVal.int IntKind.i64 (newV x).e,
  AVal.int IntKind.i64 (newV x).r, AVal.int IntKind.i64 (newV x).a, AVal.int IntKind.u64 (newV x).l]) (Res.cells (27 : Nat) [AVal.int IntKind.i64 (newV x).w, AVal.int
  IntKind.i64 (newV x).s, AVal.int IntKind.i64 (newV x).b, AVal.int IntKind.i64 (newV x).o, AVal.int IntKind.i64 (newV x).e, AVal.int IntKind.i64 (newV x).r, AVal.int
  IntKind.i64 (newV x).a, AVal.int IntKind.u64 (newV x).l]) ∧ EqR (Res.vec (22 : Nat) (List.set (List.set (List.replicate (Int.toNat (sizeV (newV x))) (0 : Int)) (0 : Nat)
  (2 : Int)) (2 : Nat) (1 : Int))) (Res.vec (22 : Nat) (firstL x s0)) ∧ True) ∧ True) ∧ ∀ (s : Nat), (↑s : Int) ≤ x.e → cnd (decide ((↑s : Int) < x.e)) (True ∧ ((1 : Int),
  (-1 : Int), (0 : Int)) = ((1 : Int), (-1 : Int), (0 : Int)) ∧ ((0 : Int) ≤ entryV (newV x) (↑s : Int) ∧ entryV (newV x) (↑s : Int) < (↑(List.length (firstL x s)) : Int))
  ∧ Int.toNat (entryV (newV x) (↑s : Int)) < List.length (firstL x s) ∧ cnd (decide (IntKind.wrap IntKind.i64 ((↑s : Int) + (1 : Int)) < x.e)) (True ∧ ((0 : Int) ≤
  entryLinkV (newV x) (↑s : Int) ∧ entryLinkV (newV x) (↑s : Int) < (↑(List.length (List.set (firstL x s) (Int.toNat (entryV (newV x) (↑s : Int))) (1048576 : Int))) : Int))
  ∧ Int.toNat (entryLinkV (newV x) (↑s : Int)) < List.length (List.set (firstL x s) (Int.toNat (entryV (newV x) (↑s : Int))) (1048576 : Int)) ∧ ∃ (s' : Nat), (↑s' : Int) ≤
  x.e ∧ Int.toNat x.e - s' < Int.toNat x.e - s ∧ (EqA (AVal.int IntKind.i64 (IntKind.wrap IntKind.i64 ((↑s : Int) + (1 : Int)))) (AVal.int IntKind.i64 (↑s' : Int)) ∧ True)
  ∧ (EqR (Res.cells (24 : Nat) [AVal.int IntKind.i64 x.w, AVal.int IntKind.i64 x.s, AVal.int IntKind.i64 x.b, AVal.int IntKind.i64 x.o, AVal.int IntKind.i64 x.e, AVal.int
  IntKind.i64 x.r, AVal.int IntKind.i64 x.a, AVal.int IntKind.u64 x.l]) (Res.cells (24 : Nat) [AVal.int IntKind.i64 x.w, AVal.int IntKind.i64 x.s, AVal.int IntKind.i64 x.b,
  AVal.int IntKind.i64 x.o, AVal.int IntKind.i64 x.e, AVal.int IntKind.i64 x.r, AVal.int IntKind.i64 x.a, AVal.int IntKind.u64 x.l]) ∧ EqR (Res.cells (27 : Nat) [AVal.int
  IntKind.i64 (newV x).w, AVal.int IntKind.i64 (newV x).s, AVal.int IntKind.i64 (newV x).b, AVal.int IntKind.i64 (newV x).o, AVal.int IntKind.i64 (newV x).e, AVal.int
  IntKind.i64 (newV x).r, AVal.int IntKind.i64 (newV x).a, AVal.int IntKind.u64 (newV x).l]) (Res.cells (27 : Nat) [AVal.int IntKind.i64 (newV x).w, AVal.int IntKind.i64
  (newV x).s, AVal.int IntKind.i64 (newV x).b, AVal.int IntKind.i64 (newV x).o, AVal.int IntKind.i64 (newV x).e, AVal.int IntKind.i64 (newV x).r, AVal.int IntKind.i64 (newV
  x).a, AVal.int IntKind.u64 (newV x).l]) ∧ EqR (Res.vec (22 : Nat) (List.set (List.set (firstL x s) (Int.toNat (entryV (newV x) (↑s : Int))) (1048576 : Int)) (Int.toNat
  (entryLinkV (newV x) (↑s : Int))) (IntKind.wrap IntKind.u64 (IntKind.wrap IntKind.i64 ((↑s : Int) + (2 : Int)))))) (Res.vec (22 : Nat) (firstL x s')) ∧ True) ∧ True) (∃
  (s' : Nat), (↑s' : Int) ≤ x.e ∧ Int.toNat x.e - s' < Int.toNat x.e - s ∧ (EqA (AVal.int IntKind.i64 (IntKind.wrap IntKind.i64 ((↑s : Int) + (1 : Int)))) (AVal.int
  IntKind.i64 (↑s' : Int)) ∧ True) ∧ (EqR (Res.cells (24 : Nat) [AVal.int IntKind.i64 x.w, AVal.int IntKind.i64 x.s, AVal.int IntKind.i64 x.b, AVal.int IntKind.i64 x.o,
  AVal.int IntKind.i64 x.e, AVal.int IntKind.i64 x.r, AVal.int IntKind.i64 x.a, AVal.int IntKind.u64 x.l]) (Res.cells (24 : Nat) [AVal.int IntKind.i64 x.w, AVal.int
  IntKind.i64 x.s, AVal.int IntKind.i64 x.b, AVal.int IntKind.i64 x.o, AVal.int IntKind.i64 x.e, AVal.int IntKind.i64 x.r, AVal.int IntKind.i64 x.a, AVal.int IntKind.u64
  x.l]) ∧ EqR (Res.cells (27 : Nat) [AVal.int IntKind.i64 (newV x).w, AVal.int IntKind.i64 (newV x).s, AVal.int IntKind.i64 (newV x).b, AVal.int IntKind.i64 (newV x).o,
  AVal.int IntKind.i64 (newV x).e, AVal.int IntKind.i64 (newV x).r, AVal.int IntKind.i64 (newV x).a, AVal.int IntKind.u64 (newV x).l]) (Res.cells (27 : Nat) [AVal.int
  IntKind.i64 (newV x).w, AVal.int IntKind.i64 (newV x).s, AVal.int IntKind.i64 (newV x).b, AVal.int IntKind.i64 (newV x).o, AVal.int IntKind.i64 (newV x).e, AVal.int
  IntKind.i64 (newV x).r, AVal.int IntKind.i64 (newV x).a, AVal.int IntKind.u64 (newV x).l]) ∧ EqR (Res.vec (22 : Nat) (List.set (firstL x s) (Int.toNat (entryV (newV x)
  (↑s : Int))) (1048576 : Int))) (Res.vec (22 : Nat) (firstL x s')) ∧ True) ∧ True)) (K (firstL x s)))) := by kernel_rfl

theorem vc_rfirst (K : (List Int) → Prop) (x : Cfg) : aexecF cnd cx ΓP (specRef x) 100 Try.f25 (codeOf Try.f25) (aCfg.enc x) [] (fun y R => rd cdW (settleA R y) K) = (
  True ∧ cnd (checkV x != (0 : Int)) (K []) (checkV x = (0 : Int) ∧ (∃ (s0 : Nat), s0 ≤ List.length (allV x) ∧ (True ∧ EqA (AVal.int IntKind.i64 (0 : Int)) (AVal.int
  IntKind.i64 (↑s0 : Int)) ∧ True) ∧ (EqR (Res.cells (24 : Nat) [AVal.int IntKind.i64 x.w, AVal.int IntKind.i64 x.s, AVal.int IntKind.i64 x.b, AVal.int IntKind.i64 x.o,
  AVal.int IntKind.i64 x.e, AVal.int IntKind.i64 x.r, AVal.int IntKind.i64 x.a, AVal.int IntKind.u64 x.l]) (Res.cells (24 : Nat) [AVal.int IntKind.i64 x.w, AVal.int
  IntKind.i64 x.s, AVal.int IntKind.i64 x.b, AVal.int IntKind.i64 x.o, AVal.int IntKind.i64 x.e, AVal.int IntKind.i64 x.r, AVal.int IntKind.i64 x.a, AVal.int IntKind.u64
  x.l]) ∧ List.map (wordR x) (List.take s0 (allV x)) = [] ∧ True) ∧ True) ∧ ∀ (s : Nat), s ≤ List.length (allV x) → cnd (decide ((↑s : Int) < (↑(List.length (allV x)) :
  Int))) (((0 : Int) ≤ (↑s : Int) ∧ (↑s : Int) < (↑(List.length (allV x)) : Int)) ∧ cnd (((List.getD (allV x) (Int.toNat (↑s : Int)) (Ytaikpkhclnkkaaa.K.dflt (tab (43 :
  TypeId)))).k == (0 : Int)) == true) (((0 : Int) ≤ (↑s : Int) ∧ (↑s : Int) < (↑(List.length (allV x)) : Int)) ∧ ((0 : Int) ≤ (↑s : Int) ∧ (↑s : Int) < (↑(List.length (allV
  x)) : Int)) ∧ cnd (((List.getD (allV x) (Int.toNat (↑s : Int)) (Ytaikpkhclnkkaaa.K.dflt (tab (43 : TypeId)))).k == (0 : Int)) == true) (((0 : Int) ≤ (↑s : Int) ∧ (↑s :
  Int) < (↑(List.length (allV x)) : Int)) ∧ ((0 : Int) ≤ (↑s : Int) ∧ (↑s : Int) < (↑(List.length (allV x)) : Int)) ∧ cnd ((List.getD (allV x) (Int.toNat (↑s : Int))
  (Ytaikpkhclnkkaaa.K.dflt (tab (43 : TypeId)))).k == (3 : Int)) (((1 : Int), (-1 : Int), (0 : Int)) = ((1 : Int), (-1 : Int), (0 : Int)) ∧ ((0 : Int) ≤ (↑s : Int) ∧ (↑s :
  Int) < (↑(List.length (allV x)) : Int)) ∧ cnd (((List.getD (allV x) (Int.toNat (↑s : Int)) (Ytaikpkhclnkkaaa.K.dflt (tab (43 : TypeId)))).k == (4 : Int)) == true) (((0 :
  Int) ≤ (↑s : Int) ∧ (↑s : Int) < (↑(List.length (allV x)) : Int)) ∧ cnd (decide ((List.getD (allV x) (Int.toNat (↑s : Int)) (Ytaikpkhclnkkaaa.K.dflt (tab (43 :
  TypeId)))).a < IntKind.wrap IntKind.i64 (x.e - (1 : Int)))) (((0 : Int) ≤ (↑s : Int) ∧ (↑s : Int) < (↑(List.length (allV x)) : Int)) ∧ ((List.length (List.map (wordR x)
  (List.take s (allV x))) + List.length [IntKind.wrap IntKind.u64 (IntKind.wrap IntKind.u64 (List.getD (allV x) (Int.toNat (↑s : Int)) (Ytaikpkhclnkkaaa.K.dflt (tab (43 :
  TypeId)))).a + (2 : Int))]) * (8 : Nat) ≤ (140737488355328 : Nat) ∧ List.length (List.map (wordR x) (List.take s (allV x))) + List.length [IntKind.wrap IntKind.u64
  (IntKind.wrap IntKind.u64 (List.getD (allV x) (Int.toNat (↑s : Int)) (Ytaikpkhclnkkaaa.K.dflt (tab (43 : TypeId)))).a + (2 : Int))] ≤ (140737488355328 : Nat)) ∧ ∃ (s' :
  Nat), s' ≤ List.length (allV x) ∧ List.length (allV x) - s' < List.length (allV x) - s ∧ (True ∧ EqA (AVal.int IntKind.i64 (IntKind.wrap IntKind.i64 ((↑s : Int) + (1 :
  Int)))) (AVal.int IntKind.i64 (↑s' : Int)) ∧ True) ∧ (EqR (Res.cells (24 : Nat) [AVal.int IntKind.i64 x.w, AVal.int IntKind.i64 x.s, AVal.int IntKind.i64 x.b, AVal.int
  IntKind.i64 x.o, AVal.int IntKind.i64 x.e, AVal.int IntKind.i64 x.r, AVal.int IntKind.i64 x.a, AVal.int IntKind.u64 x.l]) (Res.cells (24 : Nat) [AVal.int IntKind.i64 x.w,
  AVal.int IntKind.i64 x.s, AVal.int IntKind.i64 x.b, AVal.int IntKind.i64 x.o, AVal.int IntKind.i64 x.e, AVal.int IntKind.i64 x.r, AVal.int IntKind.i64 x.a, AVal.int
  IntKind.u64 x.l]) ∧ EqR (Res.vec (22 : Nat) (List.map (wordR x) (List.take s (allV x)) ++ [IntKind.wrap IntKind.u64 (IntKind.wrap IntKind.u64 (List.getD (allV x)
  (Int.toNat (↑s : Int)) (Ytaikpkhclnkkaaa.K.dflt (tab (43 : TypeId)))).a + (2 : Int))])) (Res.vec (22 : Nat) (List.map (wordR x) (List.take s' (allV x)))) ∧ True) ∧ True)
  (((List.length (List.map (wordR x) (List.take s (allV x))) + List.length [(1048576 : Int)]) * (8 : Nat) ≤ (140737488355328 : Nat) ∧ List.length (List.map (wordR x)
  (List.take s (allV x))) + List.length [(1048576 : Int)] ≤ (140737488355328 : Nat)) ∧ ∃ (s' : Nat), s' ≤ List.length (allV x) ∧ List.length (allV x) - s' < List.length
  (allV x) - s ∧ (True ∧ EqA (AVal.int IntKind.i64 (IntKind.wrap IntKind.i64 ((↑s : Int) + (1 : Int)))) (AVal.int IntKind.i64 (↑s' : Int)) ∧ True) ∧ (EqR (Res.cells (24 :
  Nat) [AVal.int IntKind.i64 x.w, AVal.int IntKind.i64 x.s, AVal.int IntKind.i64 x.b, AVal.int IntKind.i64 x.o, AVal.int IntKind.i64 x.e, AVal.int IntKind.i64 x.r, AVal.int
  IntKind.i64 x.a, AVal.int IntKind.u64 x.l]) (Res.cells (24 : Nat) [AVal.int IntKind.i64 x.w, AVal.int IntKind.i64 x.s, AVal.int IntKind.i64 x.b, AVal.int IntKind.i64 x.o,
  AVal.int IntKind.i64 x.e, AVal.int IntKind.i64 x.r, AVal.int IntKind.i64 x.a, AVal.int IntKind.u64 x.l]) ∧ EqR (Res.vec (22 : Nat) (List.map (wordR x) (List.take s (allV
  x)) ++ [(1048576 : Int)])) (Res.vec (22 : Nat) (List.map (wordR x) (List.take s' (allV x)))) ∧ True) ∧ True)) (((List.length (List.map (wordR x) (List.take s (allV x))) +
  List.length [(1048576 : Int)]) * (8 : Nat) ≤ (140737488355328 : Nat) ∧ List.length (List.map (wordR x) (List.take s (allV x))) + List.length [(1048576 : Int)] ≤
  (140737488355328 : Nat)) ∧ ∃ (s' : Nat), s' ≤ List.length (allV x) ∧ List.length (allV x) - s' < List.length (allV x) - s ∧ (True ∧ EqA (AVal.int IntKind.i64
  (IntKind.wrap IntKind.i64 ((↑s : Int) + (1 : Int)))) (AVal.int IntKind.i64 (↑s' : Int)) ∧ True) ∧ (EqR (Res.cells (24 : Nat) [AVal.int IntKind.i64 x.w, AVal.int
  IntKind.i64 x.s, AVal.int IntKind.i64 x.b, AVal.int IntKind.i64 x.o, AVal.int IntKind.i64 x.e, AVal.int IntKind.i64 x.r, AVal.int IntKind.i64 x.a, AVal.int IntKind.u64
  x.l]) (Res.cells (24 : Nat) [AVal.int IntKind.i64 x.w, AVal.int IntKind.i64 x.s, AVal.int IntKind.i64 x.b, AVal.int IntKind.i64 x.o, AVal.int IntKind.i64 x.e, AVal.int
  IntKind.i64 x.r, AVal.int IntKind.i64 x.a, AVal.int IntKind.u64 x.l]) ∧ EqR (Res.vec (22 : Nat) (List.map (wordR x) (List.take s (allV x)) ++ [(1048576 : Int)])) (Res.vec
  (22 : Nat) (List.map (wordR x) (List.take s' (allV x)))) ∧ True) ∧ True)) (((0 : Int) ≤ (↑s : Int) ∧ (↑s : Int) < (↑(List.length (allV x)) : Int)) ∧ cnd (((List.getD
  (allV x) (Int.toNat (↑s : Int)) (Ytaikpkhclnkkaaa.K.dflt (tab (43 : TypeId)))).k == (4 : Int)) == true) (((0 : Int) ≤ (↑s : Int) ∧ (↑s : Int) < (↑(List.length (allV x)) :
  Int)) ∧ cnd (decide ((List.getD (allV x) (Int.toNat (↑s : Int)) (Ytaikpkhclnkkaaa.K.dflt (tab (43 : TypeId)))).a < IntKind.wrap IntKind.i64 (x.e - (1 : Int)))) (((0 :
  Int) ≤ (↑s : Int) ∧ (↑s : Int) < (↑(List.length (allV x)) : Int)) ∧ ((List.length (List.map (wordR x) (List.take s (allV x))) + List.length [IntKind.wrap IntKind.u64
  (IntKind.wrap IntKind.u64 (List.getD (allV x) (Int.toNat (↑s : Int)) (Ytaikpkhclnkkaaa.K.dflt (tab (43 : TypeId)))).a + (2 : Int))]) * (8 : Nat) ≤ (140737488355328 : Nat)
  ∧ List.length (List.map (wordR x) (List.take s (allV x))) + List.length [IntKind.wrap IntKind.u64 (IntKind.wrap IntKind.u64 (List.getD (allV x) (Int.toNat (↑s : Int))
  (Ytaikpkhclnkkaaa.K.dflt (tab (43 : TypeId)))).a + (2 : Int))] ≤ (140737488355328 : Nat)) ∧ ∃ (s' : Nat), s' ≤ List.length (allV x) ∧ List.length (allV x) - s' <
  List.length (allV x) - s ∧ (True ∧ EqA (AVal.int IntKind.i64 (IntKind.wrap IntKind.i64 ((↑s : Int) + (1 : Int)))) (AVal.int IntKind.i64 (↑s' : Int)) ∧ True) ∧ (EqR
  (Res.cells (24 : Nat) [AVal.int IntKind.i64 x.w, AVal.int IntKind.i64 x.s, AVal.int IntKind.i64 x.b, AVal.int IntKind.i64 x.o, AVal.int IntKind.i64 x.e, AVal.int
  IntKind.i64 x.r, AVal.int IntKind.i64 x.a, AVal.int IntKind.u64 x.l]) (Res.cells (24 : Nat) [AVal.int IntKind.i64 x.w, AVal.int IntKind.i64 x.s, AVal.int IntKind.i64 x.b,
  AVal.int IntKind.i64 x.o, AVal.int IntKind.i64 x.e, AVal.int IntKind.i64 x.r, AVal.int IntKind.i64 x.a, AVal.int IntKind.u64 x.l]) ∧ EqR (Res.vec (22 : Nat) (List.map
  (wordR x) (List.take s (allV x)) ++ [IntKind.wrap IntKind.u64 (IntKind.wrap IntKind.u64 (List.getD (allV x) (Int.toNat (↑s : Int)) (Ytaikpkhclnkkaaa.K.dflt (tab (43 :
  TypeId)))).a + (2 : Int))])) (Res.vec (22 : Nat) (List.map (wordR x) (List.take s' (allV x)))) ∧ True) ∧ True) (((List.length (List.map (wordR x) (List.take s (allV x)))
  + List.length [selZ ((List.getD (allV x) (Int.toNat (↑s : Int)) (Ytaikpkhclnkkaaa.K.dflt (tab (43 : TypeId)))).a == (2 : Int)) (1 : Int) (selZ ((List.getD (allV x)
  (Int.toNat (↑s : Int)) (Ytaikpkhclnkkaaa.K.dflt (tab (43 : TypeId)))).a == (0 : Int)) (2 : Int) (0 : Int))]) * (8 : Nat) ≤ (140737488355328 : Nat) ∧ List.length (List.map
  (wordR x) (List.take s (allV x))) + List.length [selZ ((List.getD (allV x) (Int.toNat (↑s : Int)) (Ytaikpkhclnkkaaa.K.dflt (tab (43 : TypeId)))).a == (2 : Int)) (1 : Int)
  (selZ ((List.getD (allV x) (Int.toNat (↑s : Int)) (Ytaikpkhclnkkaaa.K.dflt (tab (43 : TypeId)))).a == (0 : Int)) (2 : Int) (0 : Int))] ≤ (140737488355328 : Nat)) ∧ ∃ (s'
  : Nat), s' ≤ List.length (allV x) ∧ List.length (allV x) - s' < List.length (allV x) - s ∧ (True ∧ EqA (AVal.int IntKind.i64 (IntKind.wrap IntKind.i64 ((↑s : Int) + (1 :
  Int)))) (AVal.int IntKind.i64 (↑s' : Int)) ∧ True) ∧ (EqR (Res.cells (24 : Nat) [AVal.int IntKind.i64 x.w, AVal.int IntKind.i64 x.s, AVal.int IntKind.i64 x.b, AVal.int
  IntKind.i64 x.o, AVal.int IntKind.i64 x.e, AVal.int IntKind.i64 x.r, AVal.int IntKind.i64 x.a, AVal.int IntKind.u64 x.l]) (Res.cells (24 : Nat) [AVal.int IntKind.i64 x.w,
  AVal.int IntKind.i64 x.s, AVal.int IntKind.i64 x.b, AVal.int IntKind.i64 x.o, AVal.int IntKind.i64 x.e, AVal.int IntKind.i64 x.r, AVal.int IntKind.i64 x.a, AVal.int
  IntKind.u64 x.l]) ∧ EqR (Res.vec (22 : Nat) (List.map (wordR x) (List.take s (allV x)) ++ [selZ ((List.getD (allV x) (Int.toNat (↑s : Int)) (Ytaikpkhclnkkaaa.K.dflt (tab
  (43 : TypeId)))).a == (2 : Int)) (1 : Int) (selZ ((List.getD (allV x) (Int.toNat (↑s : Int)) (Ytaikpkhclnkkaaa.K.dflt (tab (43 : TypeId)))).a == (0 : Int)) (2 : Int) (0 :
  Int))])) (Res.vec (22 : Nat) (List.map (wordR x) (List.take s' (allV x)))) ∧ True) ∧ True)) (((List.length (List.map (wordR x) (List.take s (allV x))) + List.length [selZ
  ((List.getD (allV x) (Int.toNat (↑s : Int)) (Ytaikpkhclnkkaaa.K.dflt (tab (43 : TypeId)))).a == (2 : Int)) (1 : Int) (selZ ((List.getD (allV x) (Int.toNat (↑s : Int))
  (Ytaikpkhclnkkaaa.K.dflt (tab (43 : TypeId)))).a == (0 : Int)) (2 : Int) (0 : Int))]) * (8 : Nat) ≤ (140737488355328 : Nat) ∧ List.length (List.map (wordR x) (List.take s
  (allV x))) + List.length [selZ ((List.getD (allV x) (Int.toNat (↑s : Int)) (Ytaikpkhclnkkaaa.K.dflt (tab (43 : TypeId)))).a == (2 : Int)) (1 : Int) (selZ ((List.getD
  (allV x) (Int.toNat (↑s : Int)) (Ytaikpkhclnkkaaa.K.dflt (tab (43 : TypeId)))).a == (0 : Int)) (2 : Int) (0 : Int))] ≤ (140737488355328 : Nat)) ∧ ∃ (s' : Nat), s' ≤
  List.length (allV x) ∧ List.length (allV x) - s' < List.length (allV x) - s ∧ (True ∧ EqA (AVal.int IntKind.i64 (IntKind.wrap IntKind.i64 ((↑s : Int) + (1 : Int))))
  (AVal.int IntKind.i64 (↑s' : Int)) ∧ True) ∧ (EqR (Res.cells (24 : Nat) [AVal.int IntKind.i64 x.w, AVal.int IntKind.i64 x.s, AVal.int IntKind.i64 x.b, AVal.int
  IntKind.i64 x.o, AVal.int IntKind.i64 x.e, AVal.int IntKind.i64 x.r, AVal.int IntKind.i64 x.a, AVal.int IntKind.u64 x.l]) (Res.cells (24 : Nat) [AVal.int IntKind.i64 x.w,
  AVal.int IntKind.i64 x.s, AVal.int IntKind.i64 x.b, AVal.int IntKind.i64 x.o, AVal.int IntKind.i64 x.e, AVal.int IntKind.i64 x.r, AVal.int IntKind.i64 x.a, AVal.int
  IntKind.u64 x.l]) ∧ EqR (Res.vec (22 : Nat) (List.map (wordR x) (List.take s (allV x)) ++ [selZ ((List.getD (allV x) (Int.toNat (↑s : Int)) (Ytaikpkhclnkkaaa.K.dflt (tab
  (43 : TypeId)))).a == (2 : Int)) (1 : Int) (selZ ((List.getD (allV x) (Int.toNat (↑s : Int)) (Ytaikpkhclnkkaaa.K.dflt (tab (43 : TypeId)))).a == (0 : Int)) (2 : Int) (0 :
  Int))])) (Res.vec (22 : Nat) (List.map (wordR x) (List.take s' (allV x)))) ∧ True) ∧ True))) (((0 : Int) ≤ (↑s : Int) ∧ (↑s : Int) < (↑(List.length (allV x)) : Int)) ∧
  cnd ((List.getD (allV x) (Int.toNat (↑s : Int)) (Ytaikpkhclnkkaaa.K.dflt (tab (43 : TypeId)))).k == (3 : Int)) (((1 : Int), (-1 : Int), (0 : Int)) = ((1 : Int), (-1 :
  Int), (0 : Int)) ∧ ((0 : Int) ≤ (↑s : Int) ∧ (↑s : Int) < (↑(List.length (allV x)) : Int)) ∧ cnd (((List.getD (allV x) (Int.toNat (↑s : Int)) (Ytaikpkhclnkkaaa.K.dflt
  (tab (43 : TypeId)))).k == (4 : Int)) == true) (((0 : Int) ≤ (↑s : Int) ∧ (↑s : Int) < (↑(List.length (allV x)) : Int)) ∧ cnd (decide ((List.getD (allV x) (Int.toNat (↑s
  : Int)) (Ytaikpkhclnkkaaa.K.dflt (tab (43 : TypeId)))).a < IntKind.wrap IntKind.i64 (x.e - (1 : Int)))) (((0 : Int) ≤ (↑s : Int) ∧ (↑s : Int) < (↑(List.length (allV x)) :
  Int)) ∧ ((List.length (List.map (wordR x) (List.take s (allV x))) + List.length [IntKind.wrap IntKind.u64 (IntKind.wrap IntKind.u64 (List.getD (allV x) (Int.toNat (↑s :
  Int)) (Ytaikpkhclnkkaaa.K.dflt (tab (43 : TypeId)))).a + (2 : Int))]) * (8 : Nat) ≤ (140737488355328 : Nat) ∧ List.length (List.map (wordR x) (List.take s (allV x))) +
  List.length [IntKind.wrap IntKind.u64 (IntKind.wrap IntKind.u64 (List.getD (allV x) (Int.toNat (↑s : Int)) (Ytaikpkhclnkkaaa.K.dflt (tab (43 : TypeId)))).a + (2 : Int))]
  ≤ (140737488355328 : Nat)) ∧ ∃ (s' : Nat), s' ≤ List.length (allV x) ∧ List.length (allV x) - s' < List.length (allV x) - s ∧ (True ∧ EqA (AVal.int IntKind.i64
  (IntKind.wrap IntKind.i64 ((↑s : Int) + (1 : Int)))) (AVal.int IntKind.i64 (↑s' : Int)) ∧ True) ∧ (EqR (Res.cells (24 : Nat) [AVal.int IntKind.i64 x.w, AVal.int
  IntKind.i64 x.s, AVal.int IntKind.i64 x.b, AVal.int IntKind.i64 x.o, AVal.int IntKind.i64 x.e, AVal.int IntKind.i64 x.r, AVal.int IntKind.i64 x.a, AVal.int IntKind.u64
  x.l]) (Res.cells (24 : Nat) [AVal.int IntKind.i64 x.w, AVal.int IntKind.i64 x.s, AVal.int IntKind.i64 x.b, AVal.int IntKind.i64 x.o, AVal.int IntKind.i64 x.e, AVal.int
  IntKind.i64 x.r, AVal.int IntKind.i64 x.a, AVal.int IntKind.u64 x.l]) ∧ EqR (Res.vec (22 : Nat) (List.map (wordR x) (List.take s (allV x)) ++ [IntKind.wrap IntKind.u64
  (IntKind.wrap IntKind.u64 (List.getD (allV x) (Int.toNat (↑s : Int)) (Ytaikpkhclnkkaaa.K.dflt (tab (43 : TypeId)))).a + (2 : Int))])) (Res.vec (22 : Nat) (List.map (wordR
  x) (List.take s' (allV x)))) ∧ True) ∧ True) (((List.length (List.map (wordR x) (List.take s (allV x))) + List.length [(1048576 : Int)]) * (8 : Nat) ≤ (140737488355328 :
  Nat) ∧ List.length (List.map (wordR x) (List.take s (allV x))) + List.length [(1048576 : Int)] ≤ (140737488355328 : Nat)) ∧ ∃ (s' : Nat), s' ≤ List.length (allV x) ∧
  List.length (allV x) - s' < List.length (allV x) - s ∧ (True ∧ EqA (AVal.int IntKind.i64 (IntKind.wrap IntKind.i64 ((↑s : Int) + (1 : Int)))) (AVal.int IntKind.i64 (↑s' :
  Int)) ∧ True) ∧ (EqR (Res.cells (24 : Nat) [AVal.int IntKind.i64 x.w, AVal.int IntKind.i64 x.s, AVal.int IntKind.i64 x.b, AVal.int IntKind.i64 x.o, AVal.int IntKind.i64
  x.e, AVal.int IntKind.i64 x.r, AVal.int IntKind.i64 x.a, AVal.int IntKind.u64 x.l]) (Res.cells (24 : Nat) [AVal.int IntKind.i64 x.w, AVal.int IntKind.i64 x.s, AVal.int
  IntKind.i64 x.b, AVal.int IntKind.i64 x.o, AVal.int IntKind.i64 x.e, AVal.int IntKind.i64 x.r, AVal.int IntKind.i64 x.a, AVal.int IntKind.u64 x.l]) ∧ EqR (Res.vec (22 :
  Nat) (List.map (wordR x) (List.take s (allV x)) ++ [(1048576 : Int)])) (Res.vec (22 : Nat) (List.map (wordR x) (List.take s' (allV x)))) ∧ True) ∧ True)) (((List.length
  (List.map (wordR x) (List.take s (allV x))) + List.length [(1048576 : Int)]) * (8 : Nat) ≤ (140737488355328 : Nat) ∧ List.length (List.map (wordR x) (List.take s (allV
  x))) + List.length [(1048576 : Int)] ≤ (140737488355328 : Nat)) ∧ ∃ (s' : Nat), s' ≤ List.length (allV x) ∧ List.length (allV x) - s' < List.length (allV x) - s ∧ (True ∧
  EqA (AVal.int IntKind.i64 (IntKind.wrap IntKind.i64 ((↑s : Int) + (1 : Int)))) (AVal.int IntKind.i64 (↑s' : Int)) ∧ True) ∧ (EqR (Res.cells (24 : Nat) [AVal.int
  IntKind.i64 x.w, AVal.int IntKind.i64 x.s, AVal.int IntKind.i64 x.b, AVal.int IntKind.i64 x.o, AVal.int IntKind.i64 x.e, AVal.int IntKind.i64 x.r, AVal.int IntKind.i64
  x.a, AVal.int IntKind.u64 x.l]) (Res.cells (24 : Nat) [AVal.int IntKind.i64 x.w, AVal.int IntKind.i64 x.s, AVal.int IntKind.i64 x.b, AVal.int IntKind.i64 x.o, AVal.int
  IntKind.i64 x.e, AVal.int IntKind.i64 x.r, AVal.int IntKind.i64 x.a, AVal.int IntKind.u64 x.l]) ∧ EqR (Res.vec (22 : Nat) (List.map (wordR x) (List.take s (allV x)) ++
  [(1048576 : Int)])) (Res.vec (22 : Nat) (List.map (wordR x) (List.take s' (allV x)))) ∧ True) ∧ True)) (((0 : Int) ≤ (↑s : Int) ∧ (↑s : Int) < (↑(List.length (allV x)) :
  Int)) ∧ cnd (((List.getD (allV x) (Int.toNat (↑s : Int)) (Ytaikpkhclnkkaaa.K.dflt (tab (43 : TypeId)))).k == (4 : Int)) == true) (((0 : Int) ≤ (↑s : Int) ∧ (↑s : Int) <
  (↑(List.length (allV x)) : Int)) ∧ cnd (decide ((List.getD (allV x) (Int.toNat (↑s : Int)) (Ytaikpkhclnkkaaa.K.dflt (tab (43 : TypeId)))).a < IntKind.wrap IntKind.i64
  (x.e - (1 : Int)))) (((0 : Int) ≤ (↑s : Int) ∧ (↑s : Int) < (↑(List.length (allV x)) : Int)) ∧ ((List.length (List.map (wordR x) (List.take s (allV x))) + List.length
  [IntKind.wrap IntKind.u64 (IntKind.wrap IntKind.u64 (List.getD (allV x) (Int.toNat (↑s : Int)) (Ytaikpkhclnkkaaa.K.dflt (tab (43 : TypeId)))).a + (2 : Int))]) * (8 : Nat)
  ≤ (140737488355328 : Nat) ∧ List.length (List.map (wordR x) (List.take s (allV x))) + List.length [IntKind.wrap IntKind.u64 (IntKind.wrap IntKind.u64 (List.getD (allV x)
  (Int.toNat (↑s : Int)) (Ytaikpkhclnkkaaa.K.dflt (tab (43 : TypeId)))).a + (2 : Int))] ≤ (140737488355328 : Nat)) ∧ ∃ (s' : Nat), s' ≤ List.length (allV x) ∧ List.length
  (allV x) - s' < List.length (allV x) - s ∧ (True ∧ EqA (AVal.int IntKind.i64 (IntKind.wrap IntKind.i64 ((↑s : Int) + (1 : Int)))) (AVal.int IntKind.i64 (↑s' : Int)) ∧
  True) ∧ (EqR (Res.cells (24 : Nat) [AVal.int IntKind.i64 x.w, AVal.int IntKind.i64 x.s, AVal.int IntKind.i64 x.b, AVal.int IntKind.i64 x.o, AVal.int IntKind.i64 x.e,
  AVal.int IntKind.i64 x.r, AVal.int IntKind.i64 x.a, AVal.int IntKind.u64 x.l]) (Res.cells (24 : Nat) [AVal.int IntKind.i64 x.w, AVal.int IntKind.i64 x.s, AVal.int
  IntKind.i64 x.b, AVal.int IntKind.i64 x.o, AVal.int IntKind.i64 x.e, AVal.int IntKind.i64 x.r, AVal.int IntKind.i64 x.a, AVal.int IntKind.u64 x.l]) ∧ EqR (Res.vec (22 :
  Nat) (List.map (wordR x) (List.take s (allV x)) ++ [IntKind.wrap IntKind.u64 (IntKind.wrap IntKind.u64 (List.getD (allV x) (Int.toNat (↑s : Int)) (Ytaikpkhclnkkaaa.K.dflt
  (tab (43 : TypeId)))).a + (2 : Int))])) (Res.vec (22 : Nat) (List.map (wordR x) (List.take s' (allV x)))) ∧ True) ∧ True) (((List.length (List.map (wordR x) (List.take s
  (allV x))) + List.length [selZ false (1 : Int) (selZ ((List.getD (allV x) (Int.toNat (↑s : Int)) (Ytaikpkhclnkkaaa.K.dflt (tab (43 : TypeId)))).a == (0 : Int)) (2 : Int)
  (0 : Int))]) * (8 : Nat) ≤ (140737488355328 : Nat) ∧ List.length (List.map (wordR x) (List.take s (allV x))) + List.length [selZ false (1 : Int) (selZ ((List.getD (allV
  x) (Int.toNat (↑s : Int)) (Ytaikpkhclnkkaaa.K.dflt (tab (43 : TypeId)))).a == (0 : Int)) (2 : Int) (0 : Int))] ≤ (140737488355328 : Nat)) ∧ ∃ (s' : Nat), s' ≤ List.length
  (allV x) ∧ List.length (allV x) - s' < List.length (allV x) - s ∧ (True ∧ EqA (AVal.int IntKind.i64 (IntKind.wrap IntKind.i64 ((↑s : Int) + (1 : Int)))) (AVal.int
  IntKind.i64 (↑s' : Int)) ∧ True) ∧ (EqR (Res.cells (24 : Nat) [AVal.int IntKind.i64 x.w, AVal.int IntKind.i64 x.s, AVal.int IntKind.i64 x.b, AVal.int IntKind.i64 x.o,
  AVal.int IntKind.i64 x.e, AVal.int IntKind.i64 x.r, AVal.int IntKind.i64 x.a, AVal.int IntKind.u64 x.l]) (Res.cells (24 : Nat) [AVal.int IntKind.i64 x.w, AVal.int
  IntKind.i64 x.s, AVal.int IntKind.i64 x.b, AVal.int IntKind.i64 x.o, AVal.int IntKind.i64 x.e, AVal.int IntKind.i64 x.r, AVal.int IntKind.i64 x.a, AVal.int IntKind.u64
  x.l]) ∧ EqR (Res.vec (22 : Nat) (List.map (wordR x) (List.take s (allV x)) ++ [selZ false (1 : Int) (selZ ((List.getD (allV x) (Int.toNat (↑s : Int))
  (Ytaikpkhclnkkaaa.K.dflt (tab (43 : TypeId)))).a == (0 : Int)) (2 : Int) (0 : Int))])) (Res.vec (22 : Nat) (List.map (wordR x) (List.take s' (allV x)))) ∧ True) ∧ True))
  (((List.length (List.map (wordR x) (List.take s (allV x))) + List.length [selZ false (1 : Int) (selZ ((List.getD (allV x) (Int.toNat (↑s : Int)) (Ytaikpkhclnkkaaa.K.dflt
  (tab (43 : TypeId)))).a == (0 : Int)) (2 : Int) (0 : Int))]) * (8 : Nat) ≤ (140737488355328 : Nat) ∧ List.length (List.map (wordR x) (List.take s (allV x))) + List.length
  [selZ false (1 : Int) (selZ ((List.getD (allV x) (Int.toNat (↑s : Int)) (Ytaikpkhclnkkaaa.K.dflt (tab (43 : TypeId)))).a == (0 : Int)) (2 : Int) (0 : Int))] ≤
  (140737488355328 : Nat)) ∧ ∃ (s' : Nat), s' ≤ List.length (allV x) ∧ List.length (allV x) - s' < List.length (allV x) - s ∧ (True ∧ EqA (AVal.int IntKind.i64
  (IntKind.wrap IntKind.i64 ((↑s : Int) + (1 : Int)))) (AVal.int IntKind.i64 (↑s' : Int)) ∧ True) ∧ (EqR (Res.cells (24 : Nat) [AVal.int IntKind.i64 x.w, AVal.int
  IntKind.i64 x.s, AVal.int IntKind.i64 x.b, AVal.int IntKind.i64 x.o, AVal.int IntKind.i64 x.e, AVal.int IntKind.i64 x.r, AVal.int IntKind.i64 x.a, AVal.int IntKind.u64
  x.l]) (Res.cells (24 : Nat) [AVal.int IntKind.i64 x.w, AVal.int IntKind.i64 x.s, AVal.int IntKind.i64 x.b, AVal.int IntKind.i64 x.o, AVal.int IntKind.i64 x.e, AVal.int
  IntKind.i64 x.r, AVal.int IntKind.i64 x.a, AVal.int IntKind.u64 x.l]) ∧ EqR (Res.vec (22 : Nat) (List.map (wordR x) (List.take s (allV x)) ++ [selZ false (1 : Int) (selZ
  ((List.getD (allV x) (Int.toNat (↑s : Int)) (Ytaikpkhclnkkaaa.K.dflt (tab (43 : TypeId)))).a == (0 : Int)) (2 : Int) (0 : Int))])) (Res.vec (22 : Nat) (List.map (wordR x)
  (List.take s' (allV x)))) ∧ True) ∧ True)))) (((0 : Int) ≤ (↑s : Int) ∧ (↑s : Int) < (↑(List.length (allV x)) : Int)) ∧ cnd (((List.getD (allV x) (Int.toNat (↑s : Int))
  (Ytaikpkhclnkkaaa.K.dflt (tab (43 : TypeId)))).k == (0 : Int)) == true) (((0 : Int) ≤ (↑s : Int) ∧ (↑s : Int) < (↑(List.length (allV x)) : Int)) ∧ ((0 : Int) ≤ (↑s : Int)
  ∧ (↑s : Int) < (↑(List.length (allV x)) : Int)) ∧ cnd ((List.getD (allV x) (Int.toNat (↑s : Int)) (Ytaikpkhclnkkaaa.K.dflt (tab (43 : TypeId)))).k == (3 : Int)) (((1 :
  Int), (-1 : Int), (0 : Int)) = ((1 : Int), (-1 : Int), (0 : Int)) ∧ ((0 : Int) ≤ (↑s : Int) ∧ (↑s : Int) < (↑(List.length (allV x)) : Int)) ∧ cnd (((List.getD (allV x)
  (Int.toNat (↑s : Int)) (Ytaikpkhclnkkaaa.K.dflt (tab (43 : TypeId)))).k == (4 : Int)) == true) (((0 : Int) ≤ (↑s : Int) ∧ (↑s : Int) < (↑(List.length (allV x)) : Int)) ∧
  cnd (decide ((List.getD (allV x) (Int.toNat (↑s : Int)) (Ytaikpkhclnkkaaa.K.dflt (tab (43 : TypeId)))).a < IntKind.wrap IntKind.i64 (x.e - (1 : Int)))) (((0 : Int) ≤ (↑s
  : Int) ∧ (↑s : Int) < (↑(List.length (allV x)) : Int)) ∧ ((List.length (List.map (wordR x) (List.take s (allV x))) + List.length [IntKind.wrap IntKind.u64 (IntKind.wrap
  IntKind.u64 (List.getD (allV x) (Int.toNat (↑s : Int)) (Ytaikpkhclnkkaaa.K.dflt (tab (43 : TypeId)))).a + (2 : Int))]) * (8 : Nat) ≤ (140737488355328 : Nat) ∧ List.length
  (List.map (wordR x) (List.take s (allV x))) + List.length [IntKind.wrap IntKind.u64 (IntKind.wrap IntKind.u64 (List.getD (allV x) (Int.toNat (↑s : Int))
  (Ytaikpkhclnkkaaa.K.dflt (tab (43 : TypeId)))).a + (2 : Int))] ≤ (140737488355328 : Nat)) ∧ ∃ (s' : Nat), s' ≤ List.length (allV x) ∧ List.length (allV x) - s' <
  List.length (allV x) - s ∧ (True ∧ EqA (AVal.int IntKind.i64 (IntKind.wrap IntKind.i64 ((↑s : Int) + (1 : Int)))) (AVal.int IntKind.i64 (↑s' : Int)) ∧ True) ∧ (EqR
  (Res.cells (24 : Nat) [AVal.int IntKind.i64 x.w, AVal.int IntKind.i64 x.s, AVal.int IntKind.i64 x.b, AVal.int IntKind.i64 x.o, AVal.int IntKind.i64 x.e, AVal.int
  IntKind.i64 x.r, AVal.int IntKind.i64 x.a, AVal.int IntKind.u64 x.l]) (Res.cells (24 : Nat) [AVal.int IntKind.i64 x.w, AVal.int IntKind.i64 x.s, AVal.int IntKind.i64 x.b,
  AVal.int IntKind.i64 x.o, AVal.int IntKind.i64 x.e, AVal.int IntKind.i64 x.r, AVal.int IntKind.i64 x.a, AVal.int IntKind.u64 x.l]) ∧ EqR (Res.vec (22 : Nat) (List.map
  (wordR x) (List.take s (allV x)) ++ [IntKind.wrap IntKind.u64 (IntKind.wrap IntKind.u64 (List.getD (allV x) (Int.toNat (↑s : Int)) (Ytaikpkhclnkkaaa.K.dflt (tab (43 :
  TypeId)))).a + (2 : Int))])) (Res.vec (22 : Nat) (List.map (wordR x) (List.take s' (allV x)))) ∧ True) ∧ True) (((List.length (List.map (wordR x) (List.take s (allV x)))
  + List.length [(1048576 : Int)]) * (8 : Nat) ≤ (140737488355328 : Nat) ∧ List.length (List.map (wordR x) (List.take s (allV x))) + List.length [(1048576 : Int)] ≤
  (140737488355328 : Nat)) ∧ ∃ (s' : Nat), s' ≤ List.length (allV x) ∧ List.length (allV x) - s' < List.length (allV x) - s ∧ (True ∧ EqA (AVal.int IntKind.i64
  (IntKind.wrap IntKind.i64 ((↑s : Int) + (1 : Int)))) (AVal.int IntKind.i64 (↑s' : Int)) ∧ True) ∧ (EqR (Res.cells (24 : Nat) [AVal.int IntKind.i64 x.w, AVal.int
  IntKind.i64 x.s, AVal.int IntKind.i64 x.b, AVal.int IntKind.i64 x.o, AVal.int IntKind.i64 x.e, AVal.int IntKind.i64 x.r, AVal.int IntKind.i64 x.a, AVal.int IntKind.u64
  x.l]) (Res.cells (24 : Nat) [AVal.int IntKind.i64 x.w, AVal.int IntKind.i64 x.s, AVal.int IntKind.i64 x.b, AVal.int IntKind.i64 x.o, AVal.int IntKind.i64 x.e, AVal.int
  IntKind.i64 x.r, AVal.int IntKind.i64 x.a, AVal.int IntKind.u64 x.l]) ∧ EqR (Res.vec (22 : Nat) (List.map (wordR x) (List.take s (allV x)) ++ [(1048576 : Int)])) (Res.vec
  (22 : Nat) (List.map (wordR x) (List.take s' (allV x)))) ∧ True) ∧ True)) (((List.length (List.map (wordR x) (List.take s (allV x))) + List.length [(1048576 : Int)]) * (8
  : Nat) ≤ (140737488355328 : Nat) ∧ List.length (List.map (wordR x) (List.take s (allV x))) + List.length [(1048576 : Int)] ≤ (140737488355328 : Nat)) ∧ ∃ (s' : Nat), s' ≤
  List.length (allV x) ∧ List.length (allV x) - s' < List.length (allV x) - s ∧ (True ∧ EqA (AVal.int IntKind.i64 (IntKind.wrap IntKind.i64 ((↑s : Int) + (1 : Int))))
  (AVal.int IntKind.i64 (↑s' : Int)) ∧ True) ∧ (EqR (Res.cells (24 : Nat) [AVal.int IntKind.i64 x.w, AVal.int IntKind.i64 x.s, AVal.int IntKind.i64 x.b, AVal.int
  IntKind.i64 x.o, AVal.int IntKind.i64 x.e, AVal.int IntKind.i64 x.r, AVal.int IntKind.i64 x.a, AVal.int IntKind.u64 x.l]) (Res.cells (24 : Nat) [AVal.int IntKind.i64 x.w,
  AVal.int IntKind.i64 x.s, AVal.int IntKind.i64 x.b, AVal.int IntKind.i64 x.o, AVal.int IntKind.i64 x.e, AVal.int IntKind.i64 x.r, AVal.int IntKind.i64 x.a, AVal.int
  IntKind.u64 x.l]) ∧ EqR (Res.vec (22 : Nat) (List.map (wordR x) (List.take s (allV x)) ++ [(1048576 : Int)])) (Res.vec (22 : Nat) (List.map (wordR x) (List.take s' (allV
  x)))) ∧ True) ∧ True)) (((0 : Int) ≤ (↑s : Int) ∧ (↑s : Int) < (↑(List.length (allV x)) : Int)) ∧ cnd (((List.getD (allV x) (Int.toNat (↑s : Int))
  (Ytaikpkhclnkkaaa.K.dflt (tab (43 : TypeId)))).k == (4 : Int)) == true) (((0 : Int) ≤ (↑s : Int) ∧ (↑s : Int) < (↑(List.length (allV x)) : Int)) ∧ cnd (decide ((List.getD
  (allV x) (Int.toNat (↑s : Int)) (Ytaikpkhclnkkaaa.K.dflt (tab (43 : TypeId)))).a < IntKind.wrap IntKind.i64 (x.e - (1 : Int)))) (((0 : Int) ≤ (↑s : Int) ∧ (↑s : Int) <
  (↑(List.length (allV x)) : Int)) ∧ ((List.length (List.map (wordR x) (List.take s (allV x))) + List.length [IntKind.wrap IntKind.u64 (IntKind.wrap IntKind.u64 (List.getD
  (allV x) (Int.toNat (↑s : Int)) (Ytaikpkhclnkkaaa.K.dflt (tab (43 : TypeId)))).a + (2 : Int))]) * (8 : Nat) ≤ (140737488355328 : Nat) ∧ List.length (List.map (wordR x)
  (List.take s (allV x))) + List.length [IntKind.wrap IntKind.u64 (IntKind.wrap IntKind.u64 (List.getD (allV x) (Int.toNat (↑s : Int)) (Ytaikpkhclnkkaaa.K.dflt (tab (43 :
  TypeId)))).a + (2 : Int))] ≤ (140737488355328 : Nat)) ∧ ∃ (s' : Nat), s' ≤ List.length (allV x) ∧ List.length (allV x) - s' < List.length (allV x) - s ∧ (True ∧ EqA
  (AVal.int IntKind.i64 (IntKind.wrap IntKind.i64 ((↑s : Int) + (1 : Int)))) (AVal.int IntKind.i64 (↑s' : Int)) ∧ True) ∧ (EqR (Res.cells (24 : Nat) [AVal.int IntKind.i64
  x.w, AVal.int IntKind.i64 x.s, AVal.int IntKind.i64 x.b, AVal.int IntKind.i64 x.o, AVal.int IntKind.i64 x.e, AVal.int IntKind.i64 x.r, AVal.int IntKind.i64 x.a, AVal.int
  IntKind.u64 x.l]) (Res.cells (24 : Nat) [AVal.int IntKind.i64 x.w, AVal.int IntKind.i64 x.s, AVal.int IntKind.i64 x.b, AVal.int IntKind.i64 x.o, AVal.int IntKind.i64 x.e,
  AVal.int IntKind.i64 x.r, AVal.int IntKind.i64 x.a, AVal.int IntKind.u64 x.l]) ∧ EqR (Res.vec (22 : Nat) (List.map (wordR x) (List.take s (allV x)) ++ [IntKind.wrap
  IntKind.u64 (IntKind.wrap IntKind.u64 (List.getD (allV x) (Int.toNat (↑s : Int)) (Ytaikpkhclnkkaaa.K.dflt (tab (43 : TypeId)))).a + (2 : Int))])) (Res.vec (22 : Nat)
  (List.map (wordR x) (List.take s' (allV x)))) ∧ True) ∧ True) (((List.length (List.map (wordR x) (List.take s (allV x))) + List.length [selZ ((List.getD (allV x)
  (Int.toNat (↑s : Int)) (Ytaikpkhclnkkaaa.K.dflt (tab (43 : TypeId)))).a == (2 : Int)) (1 : Int) (selZ false (2 : Int) (0 : Int))]) * (8 : Nat) ≤ (140737488355328 : Nat) ∧
  List.length (List.map (wordR x) (List.take s (allV x))) + List.length [selZ ((List.getD (allV x) (Int.toNat (↑s : Int)) (Ytaikpkhclnkkaaa.K.dflt (tab (43 : TypeId)))).a
  == (2 : Int)) (1 : Int) (selZ false (2 : Int) (0 : Int))] ≤ (140737488355328 : Nat)) ∧ ∃ (s' : Nat), s' ≤ List.length (allV x) ∧ List.length (allV x) - s' < List.length
  (allV x) - s ∧ (True ∧ EqA (AVal.int IntKind.i64 (IntKind.wrap IntKind.i64 ((↑s : Int) + (1 : Int)))) (AVal.int IntKind.i64 (↑s' : Int)) ∧ True) ∧ (EqR (Res.cells (24 :
  Nat) [AVal.int IntKind.i64 x.w, AVal.int IntKind.i64 x.s, AVal.int IntKind.i64 x.b, AVal.int IntKind.i64 x.o, AVal.int IntKind.i64 x.e, AVal.int IntKind.i64 x.r, AVal.int
  IntKind.i64 x.a, AVal.int IntKind.u64 x.l]) (Res.cells (24 : Nat) [AVal.int IntKind.i64 x.w, AVal.int IntKind.i64 x.s, AVal.int IntKind.i64 x.b, AVal.int IntKind.i64 x.o,
  AVal.int IntKind.i64 x.e, AVal.int IntKind.i64 x.r, AVal.int IntKind.i64 x.a, AVal.int IntKind.u64 x.l]) ∧ EqR (Res.vec (22 : Nat) (List.map (wordR x) (List.take s (allV
  x)) ++ [selZ ((List.getD (allV x) (Int.toNat (↑s : Int)) (Ytaikpkhclnkkaaa.K.dflt (tab (43 : TypeId)))).a == (2 : Int)) (1 : Int) (selZ false (2 : Int) (0 : Int))]))
  (Res.vec (22 : Nat) (List.map (wordR x) (List.take s' (allV x)))) ∧ True) ∧ True)) (((List.length (List.map (wordR x) (List.take s (allV x))) + List.length [selZ
  ((List.getD (allV x) (Int.toNat (↑s : Int)) (Ytaikpkhclnkkaaa.K.dflt (tab (43 : TypeId)))).a == (2 : Int)) (1 : Int) (selZ false (2 : Int) (0 : Int))]) * (8 : Nat) ≤
  (140737488355328 : Nat) ∧ List.length (List.map (wordR x) (List.take s (allV x))) + List.length [selZ ((List.getD (allV x) (Int.toNat (↑s : Int)) (Ytaikpkhclnkkaaa.K.dflt
  (tab (43 : TypeId)))).a == (2 : Int)) (1 : Int) (selZ false (2 : Int) (0 : Int))] ≤ (140737488355328 : Nat)) ∧ ∃ (s' : Nat), s' ≤ List.length (allV x) ∧ List.length (allV
  x) - s' < List.length (allV x) - s ∧ (True ∧ EqA (AVal.int IntKind.i64 (IntKind.wrap IntKind.i64 ((↑s : Int) + (1 : Int)))) (AVal.int IntKind.i64 (↑s' : Int)) ∧ True) ∧
  (EqR (Res.cells (24 : Nat) [AVal.int IntKind.i64 x.w, AVal.int IntKind.i64 x.s, AVal.int IntKind.i64 x.b, AVal.int IntKind.i64 x.o, AVal.int IntKind.i64 x.e, AVal.int
  IntKind.i64 x.r, AVal.int IntKind.i64 x.a, AVal.int IntKind.u64 x.l]) (Res.cells (24 : Nat) [AVal.int IntKind.i64 x.w, AVal.int IntKind.i64 x.s, AVal.int IntKind.i64 x.b,
  AVal.int IntKind.i64 x.o, AVal.int IntKind.i64 x.e, AVal.int IntKind.i64 x.r, AVal.int IntKind.i64 x.a, AVal.int IntKind.u64 x.l]) ∧ EqR (Res.vec (22 : Nat) (List.map
  (wordR x) (List.take s (allV x)) ++ [selZ ((List.getD (allV x) (Int.toNat (↑s : Int)) (Ytaikpkhclnkkaaa.K.dflt (tab (43 : TypeId)))).a == (2 : Int)) (1 : Int) (selZ false
  (2 : Int) (0 : Int))])) (Res.vec (22 : Nat) (List.map (wordR x) (List.take s' (allV x)))) ∧ True) ∧ True))) (((0 : Int) ≤ (↑s : Int) ∧ (↑s : Int) < (↑(List.length (allV
  x)) : Int)) ∧ cnd ((List.getD (allV x) (Int.toNat (↑s : Int)) (Ytaikpkhclnkkaaa.K.dflt (tab (43 : TypeId)))).k == (3 : Int)) (((1 : Int), (-1 : Int), (0 : Int)) = ((1 :
  Int), (-1 : Int), (0 : Int)) ∧ ((0 : Int) ≤ (↑s : Int) ∧ (↑s : Int) < (↑(List.length (allV x)) : Int)) ∧ cnd (((List.getD (allV x) (Int.toNat (↑s : Int))
  (Ytaikpkhclnkkaaa.K.dflt (tab (43 : TypeId)))).k == (4 : Int)) == true) (((0 : Int) ≤ (↑s : Int) ∧ (↑s : Int) < (↑(List.length (allV x)) : Int)) ∧ cnd (decide ((List.getD
  (allV x) (Int.toNat (↑s : Int)) (Ytaikpkhclnkkaaa.K.dflt (tab (43 : TypeId)))).a < IntKind.wrap IntKind.i64 (x.e - (1 : Int)))) (((0 : Int) ≤ (↑s : Int) ∧ (↑s : Int) <
  (↑(List.length (allV x)) : Int)) ∧ ((List.length (List.map (wordR x) (List.take s (allV x))) + List.length [IntKind.wrap IntKind.u64 (IntKind.wrap IntKind.u64 (List.getD
  (allV x) (Int.toNat (↑s : Int)) (Ytaikpkhclnkkaaa.K.dflt (tab (43 : TypeId)))).a + (2 : Int))]) * (8 : Nat) ≤ (140737488355328 : Nat) ∧ List.length (List.map (wordR x)
  (List.take s (allV x))) + List.length [IntKind.wrap IntKind.u64 (IntKind.wrap IntKind.u64 (List.getD (allV x) (Int.toNat (↑s : Int)) (Ytaikpkhclnkkaaa.K.dflt (tab (43 :
  TypeId)))).a + (2 : Int))] ≤ (140737488355328 : Nat)) ∧ ∃ (s' : Nat), s' ≤ List.length (allV x) ∧ List.length (allV x) - s' < List.length (allV x) - s ∧ (True ∧ EqA
  (AVal.int IntKind.i64 (IntKind.wrap IntKind.i64 ((↑s : Int) + (1 : Int)))) (AVal.int IntKind.i64 (↑s' : Int)) ∧ True) ∧ (EqR (Res.cells (24 : Nat) [AVal.int IntKind.i64
  x.w, AVal.int IntKind.i64 x.s, AVal.int IntKind.i64 x.b, AVal.int IntKind.i64 x.o, AVal.int IntKind.i64 x.e, AVal.int IntKind.i64 x.r, AVal.int IntKind.i64 x.a, AVal.int
  IntKind.u64 x.l]) (Res.cells (24 : Nat) [AVal.int IntKind.i64 x.w, AVal.int IntKind.i64 x.s, AVal.int IntKind.i64 x.b, AVal.int IntKind.i64 x.o, AVal.int IntKind.i64 x.e,
  AVal.int IntKind.i64 x.r, AVal.int IntKind.i64 x.a, AVal.int IntKind.u64 x.l]) ∧ EqR (Res.vec (22 : Nat) (List.map (wordR x) (List.take s (allV x)) ++ [IntKind.wrap
  IntKind.u64 (IntKind.wrap IntKind.u64 (List.getD (allV x) (Int.toNat (↑s : Int)) (Ytaikpkhclnkkaaa.K.dflt (tab (43 : TypeId)))).a + (2 : Int))])) (Res.vec (22 : Nat)
  (List.map (wordR x) (List.take s' (allV x)))) ∧ True) ∧ True) (((List.length (List.map (wordR x) (List.take s (allV x))) + List.length [(1048576 : Int)]) * (8 : Nat) ≤
  (140737488355328 : Nat) ∧ List.length (List.map (wordR x) (List.take s (allV x))) + List.length [(1048576 : Int)] ≤ (140737488355328 : Nat)) ∧ ∃ (s' : Nat), s' ≤
  List.length (allV x) ∧ List.length (allV x) - s' < List.length (allV x) - s ∧ (True ∧ EqA (AVal.int IntKind.i64 (IntKind.wrap IntKind.i64 ((↑s : Int) + (1 : Int))))
  (AVal.int IntKind.i64 (↑s' : Int)) ∧ True) ∧ (EqR (Res.cells (24 : Nat) [AVal.int IntKind.i64 x.w, AVal.int IntKind.i64 x.s, AVal.int IntKind.i64 x.b, AVal.int
  IntKind.i64 x.o, AVal.int IntKind.i64 x.e, AVal.int IntKind.i64 x.r, AVal.int IntKind.i64 x.a, AVal.int IntKind.u64 x.l]) (Res.cells (24 : Nat) [AVal.int IntKind.i64 x.w,
  AVal.int IntKind.i64 x.s, AVal.int IntKind.i64 x.b, AVal.int IntKind.i64 x.o, AVal.int IntKind.i64 x.e, AVal.int IntKind.i64 x.r, AVal.int IntKind.i64 x.a, AVal.int
  IntKind.u64 x.l]) ∧ EqR (Res.vec (22 : Nat) (List.map (wordR x) (List.take s (allV x)) ++ [(1048576 : Int)])) (Res.vec (22 : Nat) (List.map (wordR x) (List.take s' (allV
  x)))) ∧ True) ∧ True)) (((List.length (List.map (wordR x) (List.take s (allV x))) + List.length [(1048576 : Int)]) * (8 : Nat) ≤ (140737488355328 : Nat) ∧ List.length
  (List.map (wordR x) (List.take s (allV x))) + List.length [(1048576 : Int)] ≤ (140737488355328 : Nat)) ∧ ∃ (s' : Nat), s' ≤ List.length (allV x) ∧ List.length (allV x) -
  s' < List.length (allV x) - s ∧ (True ∧ EqA (AVal.int IntKind.i64 (IntKind.wrap IntKind.i64 ((↑s : Int) + (1 : Int)))) (AVal.int IntKind.i64 (↑s' : Int)) ∧ True) ∧ (EqR
  (Res.cells (24 : Nat) [AVal.int IntKind.i64 x.w, AVal.int IntKind.i64 x.s, AVal.int IntKind.i64 x.b, AVal.int IntKind.i64 x.o, AVal.int IntKind.i64 x.e, AVal.int
  IntKind.i64 x.r, AVal.int IntKind.i64 x.a, AVal.int IntKind.u64 x.l]) (Res.cells (24 : Nat) [AVal.int IntKind.i64 x.w, AVal.int IntKind.i64 x.s, AVal.int IntKind.i64 x.b,
  AVal.int IntKind.i64 x.o, AVal.int IntKind.i64 x.e, AVal.int IntKind.i64 x.r, AVal.int IntKind.i64 x.a, AVal.int IntKind.u64 x.l]) ∧ EqR (Res.vec (22 : Nat) (List.map
  (wordR x) (List.take s (allV x)) ++ [(1048576 : Int)])) (Res.vec (22 : Nat) (List.map (wordR x) (List.take s' (allV x)))) ∧ True) ∧ True)) (((0 : Int) ≤ (↑s : Int) ∧ (↑s
  : Int) < (↑(List.length (allV x)) : Int)) ∧ cnd (((List.getD (allV x) (Int.toNat (↑s : Int)) (Ytaikpkhclnkkaaa.K.dflt (tab (43 : TypeId)))).k == (4 : Int)) == true) (((0
  : Int) ≤ (↑s : Int) ∧ (↑s : Int) < (↑(List.length (allV x)) : Int)) ∧ cnd (decide ((List.getD (allV x) (Int.toNat (↑s : Int)) (Ytaikpkhclnkkaaa.K.dflt (tab (43 :
  TypeId)))).a < IntKind.wrap IntKind.i64 (x.e - (1 : Int)))) (((0 : Int) ≤ (↑s : Int) ∧ (↑s : Int) < (↑(List.length (allV x)) : Int)) ∧ ((List.length (List.map (wordR x)
  (List.take s (allV x))) + List.length [IntKind.wrap IntKind.u64 (IntKind.wrap IntKind.u64 (List.getD (allV x) (Int.toNat (↑s : Int)) (Ytaikpkhclnkkaaa.K.dflt (tab (43 :
  TypeId)))).a + (2 : Int))]) * (8 : Nat) ≤ (140737488355328 : Nat) ∧ List.length (List.map (wordR x) (List.take s (allV x))) + List.length [IntKind.wrap IntKind.u64
  (IntKind.wrap IntKind.u64 (List.getD (allV x) (Int.toNat (↑s : Int)) (Ytaikpkhclnkkaaa.K.dflt (tab (43 : TypeId)))).a + (2 : Int))] ≤ (140737488355328 : Nat)) ∧ ∃ (s' :
  Nat), s' ≤ List.length (allV x) ∧ List.length (allV x) - s' < List.length (allV x) - s ∧ (True ∧ EqA (AVal.int IntKind.i64 (IntKind.wrap IntKind.i64 ((↑s : Int) + (1 :
  Int)))) (AVal.int IntKind.i64 (↑s' : Int)) ∧ True) ∧ (EqR (Res.cells (24 : Nat) [AVal.int IntKind.i64 x.w, AVal.int IntKind.i64 x.s, AVal.int IntKind.i64 x.b, AVal.int
  IntKind.i64 x.o, AVal.int IntKind.i64 x.e, AVal.int IntKind.i64 x.r, AVal.int IntKind.i64 x.a, AVal.int IntKind.u64 x.l]) (Res.cells (24 : Nat) [AVal.int IntKind.i64 x.w,
  AVal.int IntKind.i64 x.s, AVal.int IntKind.i64 x.b, AVal.int IntKind.i64 x.o, AVal.int IntKind.i64 x.e, AVal.int IntKind.i64 x.r, AVal.int IntKind.i64 x.a, AVal.int
  IntKind.u64 x.l]) ∧ EqR (Res.vec (22 : Nat) (List.map (wordR x) (List.take s (allV x)) ++ [IntKind.wrap IntKind.u64 (IntKind.wrap IntKind.u64 (List.getD (allV x)
  (Int.toNat (↑s : Int)) (Ytaikpkhclnkkaaa.K.dflt (tab (43 : TypeId)))).a + (2 : Int))])) (Res.vec (22 : Nat) (List.map (wordR x) (List.take s' (allV x)))) ∧ True) ∧ True)
  (((List.length (List.map (wordR x) (List.take s (allV x))) + List.length [selZ false (1 : Int) (selZ false (2 : Int) (0 : Int))]) * (8 : Nat) ≤ (140737488355328 : Nat) ∧
  List.length (List.map (wordR x) (List.take s (allV x))) + List.length [selZ false (1 : Int) (selZ false (2 : Int) (0 : Int))] ≤ (140737488355328 : Nat)) ∧ ∃ (s' : Nat),
  s' ≤ List.length (allV x) ∧ List.length (allV x) - s' < List.length (allV x) - s ∧ (True ∧ EqA (AVal.int IntKind.i64 (IntKind.wrap IntKind.i64 ((↑s : Int) + (1 : Int))))
  (AVal.int IntKind.i64 (↑s' : Int)) ∧ True) ∧ (EqR (Res.cells (24 : Nat) [AVal.int IntKind.i64 x.w, AVal.int IntKind.i64 x.s, AVal.int IntKind.i64 x.b, AVal.int
  IntKind.i64 x.o, AVal.int IntKind.i64 x.e, AVal.int IntKind.i64 x.r, AVal.int IntKind.i64 x.a, AVal.int IntKind.u64 x.l]) (Res.cells (24 : Nat) [AVal.int IntKind.i64 x.w,
  AVal.int IntKind.i64 x.s, AVal.int IntKind.i64 x.b, AVal.int IntKind.i64 x.o, AVal.int IntKind.i64 x.e, AVal.int IntKind.i64 x.r, AVal.int IntKind.i64 x.a, AVal.int
  IntKind.u64 x.l]) ∧ EqR (Res.vec (22 : Nat) (List.map (wordR x) (List.take s (allV x)) ++ [selZ false (1 : Int) (selZ false (2 : Int) (0 : Int))])) (Res.vec (22 : Nat)
  (List.map (wordR x) (List.take s' (allV x)))) ∧ True) ∧ True)) (((List.length (List.map (wordR x) (List.take s (allV x))) + List.length [selZ false (1 : Int) (selZ false
  (2 : Int) (0 : Int))]) * (8 : Nat) ≤ (140737488355328 : Nat) ∧ List.length (List.map (wordR x) (List.take s (allV x))) + List.length [selZ false (1 : Int) (selZ false (2
  : Int) (0 : Int))] ≤ (140737488355328 : Nat)) ∧ ∃ (s' : Nat), s' ≤ List.length (allV x) ∧ List.length (allV x) - s' < List.length (allV x) - s ∧ (True ∧ EqA (AVal.int
  IntKind.i64 (IntKind.wrap IntKind.i64 ((↑s : Int) + (1 : Int)))) (AVal.int IntKind.i64 (↑s' : Int)) ∧ True) ∧ (EqR (Res.cells (24 : Nat) [AVal.int IntKind.i64 x.w,
  AVal.int IntKind.i64 x.s, AVal.int IntKind.i64 x.b, AVal.int IntKind.i64 x.o, AVal.int IntKind.i64 x.e, AVal.int IntKind.i64 x.r, AVal.int IntKind.i64 x.a, AVal.int
  IntKind.u64 x.l]) (Res.cells (24 : Nat) [AVal.int IntKind.i64 x.w, AVal.int IntKind.i64 x.s, AVal.int IntKind.i64 x.b, AVal.int IntKind.i64 x.o, AVal.int IntKind.i64 x.e,
  AVal.int IntKind.i64 x.r, AVal.int IntKind.i64 x.a, AVal.int IntKind.u64 x.l]) ∧ EqR (Res.vec (22 : Nat) (List.map (wordR x) (List.take s (allV x)) ++ [selZ false (1 :
  Int) (selZ false (2 : Int) (0 : Int))])) (Res.vec (22 : Nat) (List.map (wordR x) (List.take s' (allV x)))) ∧ True) ∧ True))))) (K (List.map (wordR x) (List.take s (allV
  x)))))) := by kernel_rfl

theorem vc_same (K : Bool → Prop) (a b : List Int) : aexecF cnd cx noΓ (specSame a b) 100 Try.f24 (codeOf Try.f24) (Cd.enc (.pair cdW cdW) (a, b)) [] (fun y R => rd cdB
  (settleA R y) K) = ( cnd ((↑(List.length a) : Int) != (↑(List.length b) : Int)) (K false) ((∃ (s0 : Nat), (s0 ≤ List.length a ∧ sameS a b = sameS (List.drop s0 a)
  (List.drop s0 b)) ∧ (EqA (AVal.int IntKind.i64 (0 : Int)) (AVal.int IntKind.i64 (↑s0 : Int)) ∧ True) ∧ True ∧ True) ∧ ∀ (s : Nat), s ≤ List.length a ∧ sameS a b = sameS
  (List.drop s a) (List.drop s b) → cnd (decide ((↑s : Int) < (↑(List.length a) : Int))) (((0 : Int) ≤ (↑s : Int) ∧ (↑s : Int) < (↑(List.length a) : Int)) ∧ ((0 : Int) ≤
  (↑s : Int) ∧ (↑s : Int) < (↑(List.length b) : Int)) ∧ cnd (List.getD a (Int.toNat (↑s : Int)) (0 : Int) != List.getD b (Int.toNat (↑s : Int)) (0 : Int)) (K false) (∃ (s'
  : Nat), (s' ≤ List.length a ∧ sameS a b = sameS (List.drop s' a) (List.drop s' b)) ∧ List.length a - s' < List.length a - s ∧ (EqA (AVal.int IntKind.i64 (IntKind.wrap
  IntKind.i64 ((↑s : Int) + (1 : Int)))) (AVal.int IntKind.i64 (↑s' : Int)) ∧ True) ∧ True ∧ True)) (K true))) := by kernel_rfl

theorem vc_law (K : AVal El → Prop) (x : Cfg) : aexecF cnd cx ΓQ (specF x) 100 Try.f5 (codeOf Try.f5) (aCfg.enc x) [] (fun y _ => K y) = ( True ∧ True ∧ True ∧
  List.length (firstV x) ≤ (1000 : Nat) ∧ cnd (!sameS (firstV x) (firstR x)) (K (AVal.bool false)) ((∃ (s0 : Nat), s0 ≤ List.length (firstV x) ∧ (EqA (AVal.int IntKind.i64
  (0 : Int)) (AVal.int IntKind.i64 (↑s0 : Int)) ∧ True) ∧ (EqR (Res.cells (24 : Nat) [AVal.int IntKind.i64 x.w, AVal.int IntKind.i64 x.s, AVal.int IntKind.i64 x.b, AVal.int
  IntKind.i64 x.o, AVal.int IntKind.i64 x.e, AVal.int IntKind.i64 x.r, AVal.int IntKind.i64 x.a, AVal.int IntKind.u64 x.l]) (Res.cells (24 : Nat) [AVal.int IntKind.i64 x.w,
  AVal.int IntKind.i64 x.s, AVal.int IntKind.i64 x.b, AVal.int IntKind.i64 x.o, AVal.int IntKind.i64 x.e, AVal.int IntKind.i64 x.r, AVal.int IntKind.i64 x.a, AVal.int
  IntKind.u64 x.l]) ∧ EqR (Res.vec (22 : Nat) (firstV x)) (Res.vec (22 : Nat) (List.replicate s0 (77 : Int) ++ List.drop s0 (firstV x))) ∧ True) ∧ True) ∧ ∀ (s : Nat), s ≤
  List.length (firstV x) → cnd (decide ((↑s : Int) < (↑(List.length (List.replicate s (77 : Int) ++ List.drop s (firstV x))) : Int))) (((0 : Int) ≤ (↑s : Int) ∧ (↑s : Int)
  < (↑(List.length (List.replicate s (77 : Int) ++ List.drop s (firstV x))) : Int)) ∧ Int.toNat (↑s : Int) < List.length (List.replicate s (77 : Int) ++ List.drop s (firstV
  x)) ∧ ∃ (s' : Nat), s' ≤ List.length (firstV x) ∧ List.length (firstV x) - s' < List.length (firstV x) - s ∧ (EqA (AVal.int IntKind.i64 (IntKind.wrap IntKind.i64 ((↑s :
  Int) + (1 : Int)))) (AVal.int IntKind.i64 (↑s' : Int)) ∧ True) ∧ (EqR (Res.cells (24 : Nat) [AVal.int IntKind.i64 x.w, AVal.int IntKind.i64 x.s, AVal.int IntKind.i64 x.b,
  AVal.int IntKind.i64 x.o, AVal.int IntKind.i64 x.e, AVal.int IntKind.i64 x.r, AVal.int IntKind.i64 x.a, AVal.int IntKind.u64 x.l]) (Res.cells (24 : Nat) [AVal.int
  IntKind.i64 x.w, AVal.int IntKind.i64 x.s, AVal.int IntKind.i64 x.b, AVal.int IntKind.i64 x.o, AVal.int IntKind.i64 x.e, AVal.int IntKind.i64 x.r, AVal.int IntKind.i64
  x.a, AVal.int IntKind.u64 x.l]) ∧ EqR (Res.vec (22 : Nat) (List.set (List.replicate s (77 : Int) ++ List.drop s (firstV x)) (Int.toNat (↑s : Int)) (77 : Int))) (Res.vec
  (22 : Nat) (List.replicate s' (77 : Int) ++ List.drop s' (firstV x))) ∧ True) ∧ True) (True ∧ True ∧ List.length (firstV x) ≤ (1000 : Nat) ∧ K (AVal.bool (sameS (firstV
  x) (firstR x)))))) := by kernel_rfl

theorem vc_eref (K : AVal El → Prop) : aexecF cnd cx ΓL noSpec 100 Try.f32 (codeOf Try.f32) (Cd.enc (.pair aU (.pair aI aI)) ((1 : Int), (-1 : Int), (0 : Int))) [] (fun y
  _ => K y) = ( ((17592186044416 : Int) = (0 : Int) → False) ∧ ((65536 : Int) = (0 : Int) → False) ∧ ((16 : Int) = (0 : Int) → False) ∧ K (AVal.int IntKind.u64 (1048576 :
  Int))) := by kernel_rfl

end Go.Proofs.Ytaikpkhclnkkaaa
