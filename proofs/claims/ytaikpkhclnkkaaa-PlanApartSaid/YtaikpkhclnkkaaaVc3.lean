/- What the statement PlanApart comes to, by the executor; printed by a program of mine. No condition. -/
import Derived.Test.YtaikpkhclnkkaaaApart
set_option linter.unusedVariables false
set_option maxRecDepth 100000
set_option maxHeartbeats 4000000
namespace Go.Proofs.Ytaikpkhclnkkaaa
open Go Go.Ax

theorem vc_awake (K : AVal El → Prop) : aexecF cnd cx ΓE noSpec 100 Try.f6 (codeOf Try.f6) [] [] (fun y _ => K y) = ( True ∧ True ∧ True ∧ K (AVal.bool true)) := by
  kernel_rfl

theorem vc_apart (K : AVal El → Prop) (x : Cfg) : aexecF cnd cx (ΓF cnd) (specA x) 200 Try.f3 (codeOf Try.f3) (aCfg.enc x) [] (fun y _ => K y) = ( True ∧ True ∧ cnd
  ((checkV x != (0 : Int)) == false) (cnd (decide (IntKind.wrap IntKind.i64 (x.s * x.b) > (20 : Int))) (K (AVal.bool true)) (True ∧ cnd (decide (sizeV (newV x) < (3 : Int))
  == false) (cnd (decide (sizeV (newV x) > (400 : Int))) (K (AVal.bool false)) (((0 : Int) ≤ sizeV (newV x) ∧ sizeV (newV x) = sizeV (newV x) ∧ (↑(8 : Nat) : Int) * sizeV
  (newV x) ≤ (140737488355328 : Int) ∧ sizeV (newV x) ≤ (140737488355328 : Int)) ∧ ((0 : Int) ≤ (0 : Int) ∧ (0 : Int) < (↑(List.length (List.replicate (Int.toNat (sizeV
  (newV x))) (0 : Int))) : Int)) ∧ (0 : Nat) < List.length (List.replicate (Int.toNat (sizeV (newV x))) (0 : Int)) ∧ ((0 : Int) ≤ (1 : Int) ∧ (1 : Int) < (↑(List.length
  (List.set (List.replicate (Int.toNat (sizeV (newV x))) (0 : Int)) (0 : Nat) (1 : Int))) : Int)) ∧ (1 : Nat) < List.length (List.set (List.replicate (Int.toNat (sizeV
  (newV x))) (0 : Int)) (0 : Nat) (1 : Int)) ∧ ((0 : Int) ≤ (2 : Int) ∧ (2 : Int) < (↑(List.length (List.set (List.set (List.replicate (Int.toNat (sizeV (newV x))) (0 :
  Int)) (0 : Nat) (1 : Int)) (1 : Nat) (1 : Int))) : Int)) ∧ (2 : Nat) < List.length (List.set (List.set (List.replicate (Int.toNat (sizeV (newV x))) (0 : Int)) (0 : Nat)
  (1 : Int)) (1 : Nat) (1 : Int)) ∧ (∃ (s0 : Nat), (↑s0 : Int) ≤ x.w ∧ (EqA (AVal.int IntKind.i64 (0 : Int)) (AVal.int IntKind.i64 (↑s0 : Int)) ∧ True) ∧ (EqR (Res.cells
  (nat_lit 24) [AVal.int IntKind.i64 x.w, AVal.int IntKind.i64 x.s, AVal.int IntKind.i64 x.b, AVal.int IntKind.i64 x.o, AVal.int IntKind.i64 x.e, AVal.int IntKind.i64 x.r,
  AVal.int IntKind.i64 x.a, AVal.int IntKind.u64 x.l]) (Res.cells (nat_lit 24) [AVal.int IntKind.i64 x.w, AVal.int IntKind.i64 x.s, AVal.int IntKind.i64 x.b, AVal.int
  IntKind.i64 x.o, AVal.int IntKind.i64 x.e, AVal.int IntKind.i64 x.r, AVal.int IntKind.i64 x.a, AVal.int IntKind.u64 x.l]) ∧ EqR (Res.cells (nat_lit 27) [AVal.int
  IntKind.i64 (newV x).w, AVal.int IntKind.i64 (newV x).s, AVal.int IntKind.i64 (newV x).b, AVal.int IntKind.i64 (newV x).o, AVal.int IntKind.i64 (newV x).e, AVal.int
  IntKind.i64 (newV x).r, AVal.int IntKind.i64 (newV x).a, AVal.int IntKind.u64 (newV x).l]) (Res.cells (nat_lit 27) [AVal.int IntKind.i64 (newV x).w, AVal.int IntKind.i64
  (newV x).s, AVal.int IntKind.i64 (newV x).b, AVal.int IntKind.i64 (newV x).o, AVal.int IntKind.i64 (newV x).e, AVal.int IntKind.i64 (newV x).r, AVal.int IntKind.i64 (newV
  x).a, AVal.int IntKind.u64 (newV x).l]) ∧ EqR (Res.cells (nat_lit 3) [AVal.int IntKind.i64 (sizeV (newV x))]) (Res.cells (nat_lit 3) [AVal.int IntKind.i64 (sizeV (newV
  x))]) ∧ EqR (Res.vec (nat_lit 3) (List.set (List.set (List.set (List.replicate (Int.toNat (sizeV (newV x))) (0 : Int)) (0 : Nat) (1 : Int)) (1 : Nat) (1 : Int)) (2 : Nat)
  (1 : Int))) (Res.vec (nat_lit 3) (oz ((3 : Nat) + s0) (sz x))) ∧ EqR (Res.cells (nat_lit 32) [AVal.vec (nat_lit 3)]) (Res.cells (nat_lit 32) [AVal.vec (nat_lit 3)]) ∧
  True) ∧ true = true) ∧ ∀ (s : Nat), (↑s : Int) ≤ x.w → cnd (decide ((↑s : Int) < x.w)) (True ∧ cnd (decide (announceV (newV x) (↑s : Int) ≥ (0 : Int)) == true) (cnd
  (decide (announceV (newV x) (↑s : Int) < sizeV (newV x))) (((0 : Int) ≤ announceV (newV x) (↑s : Int) ∧ announceV (newV x) (↑s : Int) < (↑(List.length (oz ((3 : Nat) + s)
  (sz x))) : Int)) ∧ Int.toNat (announceV (newV x) (↑s : Int)) < List.length (oz ((3 : Nat) + s) (sz x)) ∧ ((0 : Int) ≤ announceV (newV x) (↑s : Int) ∧ announceV (newV x)
  (↑s : Int) < (↑(List.length (oz ((3 : Nat) + s) (sz x))) : Int)) ∧ Int.toNat (announceV (newV x) (↑s : Int)) < List.length (oz ((3 : Nat) + s) (sz x)) ∧ EqE (AVal.tup [],
  [(nat_lit 2, Res.cells (nat_lit 3) [AVal.int IntKind.i64 (sizeV (newV x))]), (nat_lit 3, Res.vec (nat_lit 3) (List.set (oz ((3 : Nat) + s) (sz x)) (Int.toNat (announceV
  (newV x) (↑s : Int))) (IntKind.wrap IntKind.i64 (List.getD (oz ((3 : Nat) + s) (sz x)) (Int.toNat (announceV (newV x) (↑s : Int))) (0 : Int) + (1 : Int))))), (nat_lit 4,
  Res.cells (nat_lit 32) [AVal.vec (nat_lit 3)])]) (AVal.tup [], [(nat_lit 2, Res.cells (nat_lit 3) [AVal.int IntKind.i64 (sizeV (newV x))]), (nat_lit 3, Res.vec (nat_lit
  3) (putL (oz ((3 : Nat) + s) (sz x)) (announceV (newV x) (↑s : Int)) (sizeV (newV x)))), (nat_lit 4, Res.cells (nat_lit 32) [AVal.vec (nat_lit 3)])])) (EqE (AVal.tup [],
  [(nat_lit 2, Res.cells (nat_lit 3) [AVal.int IntKind.i64 (sizeV (newV x))]), (nat_lit 3, Res.vec (nat_lit 3) (oz ((3 : Nat) + s) (sz x))), (nat_lit 4, Res.cells (nat_lit
  32) [AVal.vec (nat_lit 3)])]) (AVal.tup [], [(nat_lit 2, Res.cells (nat_lit 3) [AVal.int IntKind.i64 (sizeV (newV x))]), (nat_lit 3, Res.vec (nat_lit 3) (putL (oz ((3 :
  Nat) + s) (sz x)) (announceV (newV x) (↑s : Int)) (sizeV (newV x)))), (nat_lit 4, Res.cells (nat_lit 32) [AVal.vec (nat_lit 3)])]))) (EqE (AVal.tup [], [(nat_lit 2,
  Res.cells (nat_lit 3) [AVal.int IntKind.i64 (sizeV (newV x))]), (nat_lit 3, Res.vec (nat_lit 3) (oz ((3 : Nat) + s) (sz x))), (nat_lit 4, Res.cells (nat_lit 32) [AVal.vec
  (nat_lit 3)])]) (AVal.tup [], [(nat_lit 2, Res.cells (nat_lit 3) [AVal.int IntKind.i64 (sizeV (newV x))]), (nat_lit 3, Res.vec (nat_lit 3) (putL (oz ((3 : Nat) + s) (sz
  x)) (announceV (newV x) (↑s : Int)) (sizeV (newV x)))), (nat_lit 4, Res.cells (nat_lit 32) [AVal.vec (nat_lit 3)])])) ∧ ∃ (s' : Nat), (↑s' : Int) ≤ x.w ∧ Int.toNat x.w -
  s' < Int.toNat x.w - s ∧ (EqA (AVal.int IntKind.i64 (IntKind.wrap IntKind.i64 ((↑s : Int) + (1 : Int)))) (AVal.int IntKind.i64 (↑s' : Int)) ∧ True) ∧ (EqR (Res.cells
  (nat_lit 24) [AVal.int IntKind.i64 x.w, AVal.int IntKind.i64 x.s, AVal.int IntKind.i64 x.b, AVal.int IntKind.i64 x.o, AVal.int IntKind.i64 x.e, AVal.int IntKind.i64 x.r,
  AVal.int IntKind.i64 x.a, AVal.int IntKind.u64 x.l]) (Res.cells (nat_lit 24) [AVal.int IntKind.i64 x.w, AVal.int IntKind.i64 x.s, AVal.int IntKind.i64 x.b, AVal.int
  IntKind.i64 x.o, AVal.int IntKind.i64 x.e, AVal.int IntKind.i64 x.r, AVal.int IntKind.i64 x.a, AVal.int IntKind.u64 x.l]) ∧ EqR (Res.cells (nat_lit 27) [AVal.int
  IntKind.i64 (newV x).w, AVal.int IntKind.i64 (newV x).s, AVal.int IntKind.i64 (newV x).b, AVal.int IntKind.i64 (newV x).o, AVal.int IntKind.i64 (newV x).e, AVal.int
  IntKind.i64 (newV x).r, AVal.int IntKind.i64 (newV x).a, AVal.int IntKind.u64 (newV x).l]) (Res.cells (nat_lit 27) [AVal.int IntKind.i64 (newV x).w, AVal.int IntKind.i64
  (newV x).s, AVal.int IntKind.i64 (newV x).b, AVal.int IntKind.i64 (newV x).o, AVal.int IntKind.i64 (newV x).e, AVal.int IntKind.i64 (newV x).r, AVal.int IntKind.i64 (newV
  x).a, AVal.int IntKind.u64 (newV x).l]) ∧ EqR (Res.cells (nat_lit 3) [AVal.int IntKind.i64 (sizeV (newV x))]) (Res.cells (nat_lit 3) [AVal.int IntKind.i64 (sizeV (newV
  x))]) ∧ EqR (Res.vec (nat_lit 3) (putL (oz ((3 : Nat) + s) (sz x)) (announceV (newV x) (↑s : Int)) (sizeV (newV x)))) (Res.vec (nat_lit 3) (oz ((3 : Nat) + s') (sz x))) ∧
  EqR (Res.cells (nat_lit 32) [AVal.vec (nat_lit 3)]) (Res.cells (nat_lit 32) [AVal.vec (nat_lit 3)]) ∧ True) ∧ true = true) ((∃ (s0 : Nat), (↑s0 : Int) ≤ x.s ∧ (EqA
  (AVal.int IntKind.i64 (0 : Int)) (AVal.int IntKind.i64 (↑s0 : Int)) ∧ True) ∧ (EqR (Res.cells (nat_lit 24) [AVal.int IntKind.i64 x.w, AVal.int IntKind.i64 x.s, AVal.int
  IntKind.i64 x.b, AVal.int IntKind.i64 x.o, AVal.int IntKind.i64 x.e, AVal.int IntKind.i64 x.r, AVal.int IntKind.i64 x.a, AVal.int IntKind.u64 x.l]) (Res.cells (nat_lit
  24) [AVal.int IntKind.i64 x.w, AVal.int IntKind.i64 x.s, AVal.int IntKind.i64 x.b, AVal.int IntKind.i64 x.o, AVal.int IntKind.i64 x.e, AVal.int IntKind.i64 x.r, AVal.int
  IntKind.i64 x.a, AVal.int IntKind.u64 x.l]) ∧ EqR (Res.cells (nat_lit 27) [AVal.int IntKind.i64 (newV x).w, AVal.int IntKind.i64 (newV x).s, AVal.int IntKind.i64 (newV
  x).b, AVal.int IntKind.i64 (newV x).o, AVal.int IntKind.i64 (newV x).e, AVal.int IntKind.i64 (newV x).r, AVal.int IntKind.i64 (newV x).a, AVal.int IntKind.u64 (newV
  x).l]) (Res.cells (nat_lit 27) [AVal.int IntKind.i64 (newV x).w, AVal.int IntKind.i64 (newV x).s, AVal.int IntKind.i64 (newV x).b, AVal.int IntKind.i64 (newV x).o,
  AVal.int IntKind.i64 (newV x).e, AVal.int IntKind.i64 (newV x).r, AVal.int IntKind.i64 (newV x).a, AVal.int IntKind.u64 (newV x).l]) ∧ EqR (Res.cells (nat_lit 3)
  [AVal.int IntKind.i64 (sizeV (newV x))]) (Res.cells (nat_lit 3) [AVal.int IntKind.i64 (sizeV (newV x))]) ∧ EqR (Res.vec (nat_lit 3) (oz ((3 : Nat) + s) (sz x))) (Res.vec
  (nat_lit 3) (oz ((3 : Nat) + Int.toNat x.w + s0) (sz x))) ∧ EqR (Res.cells (nat_lit 32) [AVal.vec (nat_lit 3)]) (Res.cells (nat_lit 32) [AVal.vec (nat_lit 3)]) ∧ True) ∧
  true = true) ∧ ∀ (s : Nat), (↑s : Int) ≤ x.s → cnd (decide ((↑s : Int) < x.s)) (True ∧ cnd (decide (slabV (newV x) (↑s : Int) ≥ (0 : Int)) == true) (cnd (decide (slabV
  (newV x) (↑s : Int) < sizeV (newV x))) (((0 : Int) ≤ slabV (newV x) (↑s : Int) ∧ slabV (newV x) (↑s : Int) < (↑(List.length (oz ((3 : Nat) + Int.toNat x.w + s) (sz x))) :
  Int)) ∧ Int.toNat (slabV (newV x) (↑s : Int)) < List.length (oz ((3 : Nat) + Int.toNat x.w + s) (sz x)) ∧ ((0 : Int) ≤ slabV (newV x) (↑s : Int) ∧ slabV (newV x) (↑s :
  Int) < (↑(List.length (oz ((3 : Nat) + Int.toNat x.w + s) (sz x))) : Int)) ∧ Int.toNat (slabV (newV x) (↑s : Int)) < List.length (oz ((3 : Nat) + Int.toNat x.w + s) (sz
  x)) ∧ EqE (AVal.tup [], [(nat_lit 2, Res.cells (nat_lit 3) [AVal.int IntKind.i64 (sizeV (newV x))]), (nat_lit 3, Res.vec (nat_lit 3) (List.set (oz ((3 : Nat) + Int.toNat
  x.w + s) (sz x)) (Int.toNat (slabV (newV x) (↑s : Int))) (IntKind.wrap IntKind.i64 (List.getD (oz ((3 : Nat) + Int.toNat x.w + s) (sz x)) (Int.toNat (slabV (newV x) (↑s :
  Int))) (0 : Int) + (1 : Int))))), (nat_lit 4, Res.cells (nat_lit 32) [AVal.vec (nat_lit 3)])]) (AVal.tup [], [(nat_lit 2, Res.cells (nat_lit 3) [AVal.int IntKind.i64
  (sizeV (newV x))]), (nat_lit 3, Res.vec (nat_lit 3) (putL (oz ((3 : Nat) + Int.toNat x.w + s) (sz x)) (slabV (newV x) (↑s : Int)) (sizeV (newV x)))), (nat_lit 4,
  Res.cells (nat_lit 32) [AVal.vec (nat_lit 3)])])) (EqE (AVal.tup [], [(nat_lit 2, Res.cells (nat_lit 3) [AVal.int IntKind.i64 (sizeV (newV x))]), (nat_lit 3, Res.vec
  (nat_lit 3) (oz ((3 : Nat) + Int.toNat x.w + s) (sz x))), (nat_lit 4, Res.cells (nat_lit 32) [AVal.vec (nat_lit 3)])]) (AVal.tup [], [(nat_lit 2, Res.cells (nat_lit 3)
  [AVal.int IntKind.i64 (sizeV (newV x))]), (nat_lit 3, Res.vec (nat_lit 3) (putL (oz ((3 : Nat) + Int.toNat x.w + s) (sz x)) (slabV (newV x) (↑s : Int)) (sizeV (newV
  x)))), (nat_lit 4, Res.cells (nat_lit 32) [AVal.vec (nat_lit 3)])]))) (EqE (AVal.tup [], [(nat_lit 2, Res.cells (nat_lit 3) [AVal.int IntKind.i64 (sizeV (newV x))]),
  (nat_lit 3, Res.vec (nat_lit 3) (oz ((3 : Nat) + Int.toNat x.w + s) (sz x))), (nat_lit 4, Res.cells (nat_lit 32) [AVal.vec (nat_lit 3)])]) (AVal.tup [], [(nat_lit 2,
  Res.cells (nat_lit 3) [AVal.int IntKind.i64 (sizeV (newV x))]), (nat_lit 3, Res.vec (nat_lit 3) (putL (oz ((3 : Nat) + Int.toNat x.w + s) (sz x)) (slabV (newV x) (↑s :
  Int)) (sizeV (newV x)))), (nat_lit 4, Res.cells (nat_lit 32) [AVal.vec (nat_lit 3)])])) ∧ ∃ (s' : Nat), (↑s' : Int) ≤ x.s ∧ Int.toNat x.s - s' < Int.toNat x.s - s ∧ (EqA
  (AVal.int IntKind.i64 (IntKind.wrap IntKind.i64 ((↑s : Int) + (1 : Int)))) (AVal.int IntKind.i64 (↑s' : Int)) ∧ True) ∧ (EqR (Res.cells (nat_lit 24) [AVal.int IntKind.i64
  x.w, AVal.int IntKind.i64 x.s, AVal.int IntKind.i64 x.b, AVal.int IntKind.i64 x.o, AVal.int IntKind.i64 x.e, AVal.int IntKind.i64 x.r, AVal.int IntKind.i64 x.a, AVal.int
  IntKind.u64 x.l]) (Res.cells (nat_lit 24) [AVal.int IntKind.i64 x.w, AVal.int IntKind.i64 x.s, AVal.int IntKind.i64 x.b, AVal.int IntKind.i64 x.o, AVal.int IntKind.i64
  x.e, AVal.int IntKind.i64 x.r, AVal.int IntKind.i64 x.a, AVal.int IntKind.u64 x.l]) ∧ EqR (Res.cells (nat_lit 27) [AVal.int IntKind.i64 (newV x).w, AVal.int IntKind.i64
  (newV x).s, AVal.int IntKind.i64 (newV x).b, AVal.int IntKind.i64 (newV x).o, AVal.int IntKind.i64 (newV x).e, AVal.int IntKind.i64 (newV x).r, AVal.int IntKind.i64 (newV
  x).a, AVal.int IntKind.u64 (newV x).l]) (Res.cells (nat_lit 27) [AVal.int IntKind.i64 (newV x).w, AVal.int IntKind.i64 (newV x).s, AVal.int IntKind.i64 (newV x).b,
  AVal.int IntKind.i64 (newV x).o, AVal.int IntKind.i64 (newV x).e, AVal.int IntKind.i64 (newV x).r, AVal.int IntKind.i64 (newV x).a, AVal.int IntKind.u64 (newV x).l]) ∧
  EqR (Res.cells (nat_lit 3) [AVal.int IntKind.i64 (sizeV (newV x))]) (Res.cells (nat_lit 3) [AVal.int IntKind.i64 (sizeV (newV x))]) ∧ EqR (Res.vec (nat_lit 3) (putL (oz
  ((3 : Nat) + Int.toNat x.w + s) (sz x)) (slabV (newV x) (↑s : Int)) (sizeV (newV x)))) (Res.vec (nat_lit 3) (oz ((3 : Nat) + Int.toNat x.w + s') (sz x))) ∧ EqR (Res.cells
  (nat_lit 32) [AVal.vec (nat_lit 3)]) (Res.cells (nat_lit 32) [AVal.vec (nat_lit 3)]) ∧ True) ∧ true = true) ((∃ (s0 : Nat), (↑s0 : Int) ≤ x.e ∧ (EqA (AVal.int IntKind.i64
  (0 : Int)) (AVal.int IntKind.i64 (↑s0 : Int)) ∧ True) ∧ (EqR (Res.cells (nat_lit 24) [AVal.int IntKind.i64 x.w, AVal.int IntKind.i64 x.s, AVal.int IntKind.i64 x.b,
  AVal.int IntKind.i64 x.o, AVal.int IntKind.i64 x.e, AVal.int IntKind.i64 x.r, AVal.int IntKind.i64 x.a, AVal.int IntKind.u64 x.l]) (Res.cells (nat_lit 24) [AVal.int
  IntKind.i64 x.w, AVal.int IntKind.i64 x.s, AVal.int IntKind.i64 x.b, AVal.int IntKind.i64 x.o, AVal.int IntKind.i64 x.e, AVal.int IntKind.i64 x.r, AVal.int IntKind.i64
  x.a, AVal.int IntKind.u64 x.l]) ∧ EqR (Res.cells (nat_lit 27) [AVal.int IntKind.i64 (newV x).w, AVal.int IntKind.i64 (newV x).s, AVal.int IntKind.i64 (newV x).b, AVal.int
  IntKind.i64 (newV x).o, AVal.int IntKind.i64 (newV x).e, AVal.int IntKind.i64 (newV x).r, AVal.int IntKind.i64 (newV x).a, AVal.int IntKind.u64 (newV x).l]) (Res.cells
  (nat_lit 27) [AVal.int IntKind.i64 (newV x).w, AVal.int IntKind.i64 (newV x).s, AVal.int IntKind.i64 (newV x).b, AVal.int IntKind.i64 (newV x).o, AVal.int IntKind.i64
  (newV x).e, AVal.int IntKind.i64 (newV x).r, AVal.int IntKind.i64 (newV x).a, AVal.int IntKind.u64 (newV x).l]) ∧ EqR (Res.cells (nat_lit 3) [AVal.int IntKind.i64 (sizeV
  (newV x))]) (Res.cells (nat_lit 3) [AVal.int IntKind.i64 (sizeV (newV x))]) ∧ EqR (Res.vec (nat_lit 3) (oz ((3 : Nat) + Int.toNat x.w + s) (sz x))) (Res.vec (nat_lit 3)
  (oz ((3 : Nat) + Int.toNat x.w + Int.toNat x.s + (2 : Nat) * s0) (sz x))) ∧ EqR (Res.cells (nat_lit 32) [AVal.vec (nat_lit 3)]) (Res.cells (nat_lit 32) [AVal.vec (nat_lit
  3)]) ∧ True) ∧ true = true) ∧ ∀ (s : Nat), (↑s : Int) ≤ x.e → cnd (decide ((↑s : Int) < x.e)) (True ∧ cnd (decide (entryV (newV x) (↑s : Int) ≥ (0 : Int)) == true) (cnd
  (decide (entryV (newV x) (↑s : Int) < sizeV (newV x))) (((0 : Int) ≤ entryV (newV x) (↑s : Int) ∧ entryV (newV x) (↑s : Int) < (↑(List.length (oz ((3 : Nat) + Int.toNat
  x.w + Int.toNat x.s + (2 : Nat) * s) (sz x))) : Int)) ∧ Int.toNat (entryV (newV x) (↑s : Int)) < List.length (oz ((3 : Nat) + Int.toNat x.w + Int.toNat x.s + (2 : Nat) *
  s) (sz x)) ∧ ((0 : Int) ≤ entryV (newV x) (↑s : Int) ∧ entryV (newV x) (↑s : Int) < (↑(List.length (oz ((3 : Nat) + Int.toNat x.w + Int.toNat x.s + (2 : Nat) * s) (sz
  x))) : Int)) ∧ Int.toNat (entryV (newV x) (↑s : Int)) < List.length (oz ((3 : Nat) + Int.toNat x.w + Int.toNat x.s + (2 : Nat) * s) (sz x)) ∧ EqE (AVal.tup [], [(nat_lit
  2, Res.cells (nat_lit 3) [AVal.int IntKind.i64 (sizeV (newV x))]), (nat_lit 3, Res.vec (nat_lit 3) (List.set (oz ((3 : Nat) + Int.toNat x.w + Int.toNat x.s + (2 : Nat) *
  s) (sz x)) (Int.toNat (entryV (newV x) (↑s : Int))) (IntKind.wrap IntKind.i64 (List.getD (oz ((3 : Nat) + Int.toNat x.w + Int.toNat x.s + (2 : Nat) * s) (sz x))
  (Int.toNat (entryV (newV x) (↑s : Int))) (0 : Int) + (1 : Int))))), (nat_lit 4, Res.cells (nat_lit 32) [AVal.vec (nat_lit 3)])]) (AVal.tup [], [(nat_lit 2, Res.cells
  (nat_lit 3) [AVal.int IntKind.i64 (sizeV (newV x))]), (nat_lit 3, Res.vec (nat_lit 3) (putL (oz ((3 : Nat) + Int.toNat x.w + Int.toNat x.s + (2 : Nat) * s) (sz x))
  (entryV (newV x) (↑s : Int)) (sizeV (newV x)))), (nat_lit 4, Res.cells (nat_lit 32) [AVal.vec (nat_lit 3)])])) (EqE (AVal.tup [], [(nat_lit 2, Res.cells (nat_lit 3)
  [AVal.int IntKind.i64 (sizeV (newV x))]), (nat_lit 3, Res.vec (nat_lit 3) (oz ((3 : Nat) + Int.toNat x.w + Int.toNat x.s + (2 : Nat) * s) (sz x))), (nat_lit 4, Res.cells
  (nat_lit 32) [AVal.vec (nat_lit 3)])]) (AVal.tup [], [(nat_lit 2, Res.cells (nat_lit 3) [AVal.int IntKind.i64 (sizeV (newV x))]), (nat_lit 3, Res.vec (nat_lit 3) (putL
  (oz ((3 : Nat) + Int.toNat x.w + Int.toNat x.s + (2 : Nat) * s) (sz x)) (entryV (newV x) (↑s : Int)) (sizeV (newV x)))), (nat_lit 4, Res.cells (nat_lit 32) [AVal.vec
  (nat_lit 3)])]))) (EqE (AVal.tup [], [(nat_lit 2, Res.cells (nat_lit 3) [AVal.int IntKind.i64 (sizeV (newV x))]), (nat_lit 3, Res.vec (nat_lit 3) (oz ((3 : Nat) +
  Int.toNat x.w + Int.toNat x.s + (2 : Nat) * s) (sz x))), (nat_lit 4, Res.cells (nat_lit 32) [AVal.vec (nat_lit 3)])]) (AVal.tup [], [(nat_lit 2, Res.cells (nat_lit 3)
  [AVal.int IntKind.i64 (sizeV (newV x))]), (nat_lit 3, Res.vec (nat_lit 3) (putL (oz ((3 : Nat) + Int.toNat x.w + Int.toNat x.s + (2 : Nat) * s) (sz x)) (entryV (newV x)
  (↑s : Int)) (sizeV (newV x)))), (nat_lit 4, Res.cells (nat_lit 32) [AVal.vec (nat_lit 3)])])) ∧ True ∧ cnd (decide (entryLinkV (newV x) (↑s : Int) ≥ (0 : Int)) == true)
  (cnd (decide (entryLinkV (newV x) (↑s : Int) < sizeV (newV x))) (((0 : Int) ≤ entryLinkV (newV x) (↑s : Int) ∧ entryLinkV (newV x) (↑s : Int) < (↑(List.length (putL (oz
  ((3 : Nat) + Int.toNat x.w + Int.toNat x.s + (2 : Nat) * s) (sz x)) (entryV (newV x) (↑s : Int)) (sizeV (newV x)))) : Int)) ∧ Int.toNat (entryLinkV (newV x) (↑s : Int)) <
  List.length (putL (oz ((3 : Nat) + Int.toNat x.w + Int.toNat x.s + (2 : Nat) * s) (sz x)) (entryV (newV x) (↑s : Int)) (sizeV (newV x))) ∧ ((0 : Int) ≤ entryLinkV (newV
  x) (↑s : Int) ∧ entryLinkV (newV x) (↑s : Int) < (↑(List.length (putL (oz ((3 : Nat) + Int.toNat x.w + Int.toNat x.s + (2 : Nat) * s) (sz x)) (entryV (newV x) (↑s : Int))
  (sizeV (newV x)))) : Int)) ∧ Int.toNat (entryLinkV (newV x) (↑s : Int)) < List.length (putL (oz ((3 : Nat) + Int.toNat x.w + Int.toNat x.s + (2 : Nat) * s) (sz x))
  (entryV (newV x) (↑s : Int)) (sizeV (newV x))) ∧ EqE (AVal.tup [], [(nat_lit 2, Res.cells (nat_lit 3) [AVal.int IntKind.i64 (sizeV (newV x))]), (nat_lit 3, Res.vec
  (nat_lit 3) (List.set (putL (oz ((3 : Nat) + Int.toNat x.w + Int.toNat x.s + (2 : Nat) * s) (sz x)) (entryV (newV x) (↑s : Int)) (sizeV (newV x))) (Int.toNat (entryLinkV
  (newV x) (↑s : Int))) (IntKind.wrap IntKind.i64 (List.getD (putL (oz ((3 : Nat) + Int.toNat x.w + Int.toNat x.s + (2 : Nat) * s) (sz x)) (entryV (newV x) (↑s : Int))
  (sizeV (newV x))) (Int.toNat (entryLinkV (newV x) (↑s : Int))) (0 : Int) + (1 : Int))))), (nat_lit 4, Res.cells (nat_lit 32) [AVal.vec (nat_lit 3)])]) (AVal.tup [],
  [(nat_lit 2, Res.cells (nat_lit 3) [AVal.int IntKind.i64 (sizeV (newV x))]), (nat_lit 3, Res.vec (nat_lit 3) (putL (putL (oz ((3 : Nat) + Int.toNat x.w + Int.toNat x.s +
  (2 : Nat) * s) (sz x)) (entryV (newV x) (↑s : Int)) (sizeV (newV x))) (entryLinkV (newV x) (↑s : Int)) (sizeV (newV x)))), (nat_lit 4, Res.cells (nat_lit 32) [AVal.vec
  (nat_lit 3)])])) (EqE (AVal.tup [], [(nat_lit 2, Res.cells (nat_lit 3) [AVal.int IntKind.i64 (sizeV (newV x))]), (nat_lit 3, Res.vec (nat_lit 3) (putL (oz ((3 : Nat) +
  Int.toNat x.w + Int.toNat x.s + (2 : Nat) * s) (sz x)) (entryV (newV x) (↑s : Int)) (sizeV (newV x)))), (nat_lit 4, Res.cells (nat_lit 32) [AVal.vec (nat_lit 3)])])
  (AVal.tup [], [(nat_lit 2, Res.cells (nat_lit 3) [AVal.int IntKind.i64 (sizeV (newV x))]), (nat_lit 3, Res.vec (nat_lit 3) (putL (putL (oz ((3 : Nat) + Int.toNat x.w +
  Int.toNat x.s + (2 : Nat) * s) (sz x)) (entryV (newV x) (↑s : Int)) (sizeV (newV x))) (entryLinkV (newV x) (↑s : Int)) (sizeV (newV x)))), (nat_lit 4, Res.cells (nat_lit
  32) [AVal.vec (nat_lit 3)])]))) (EqE (AVal.tup [], [(nat_lit 2, Res.cells (nat_lit 3) [AVal.int IntKind.i64 (sizeV (newV x))]), (nat_lit 3, Res.vec (nat_lit 3) (putL (oz
  ((3 : Nat) + Int.toNat x.w + Int.toNat x.s + (2 : Nat) * s) (sz x)) (entryV (newV x) (↑s : Int)) (sizeV (newV x)))), (nat_lit 4, Res.cells (nat_lit 32) [AVal.vec (nat_lit
  3)])]) (AVal.tup [], [(nat_lit 2, Res.cells (nat_lit 3) [AVal.int IntKind.i64 (sizeV (newV x))]), (nat_lit 3, Res.vec (nat_lit 3) (putL (putL (oz ((3 : Nat) + Int.toNat
  x.w + Int.toNat x.s + (2 : Nat) * s) (sz x)) (entryV (newV x) (↑s : Int)) (sizeV (newV x))) (entryLinkV (newV x) (↑s : Int)) (sizeV (newV x)))), (nat_lit 4, Res.cells
  (nat_lit 32) [AVal.vec (nat_lit 3)])])) ∧ ∃ (s' : Nat), (↑s' : Int) ≤ x.e ∧ Int.toNat x.e - s' < Int.toNat x.e - s ∧ (EqA (AVal.int IntKind.i64 (IntKind.wrap IntKind.i64
  ((↑s : Int) + (1 : Int)))) (AVal.int IntKind.i64 (↑s' : Int)) ∧ True) ∧ (EqR (Res.cells (nat_lit 24) [AVal.int IntKind.i64 x.w, AVal.int IntKind.i64 x.s, AVal.int
  IntKind.i64 x.b, AVal.int IntKind.i64 x.o, AVal.int IntKind.i64 x.e, AVal.int IntKind.i64 x.r, AVal.int IntKind.i64 x.a, AVal.int IntKind.u64 x.l]) (Res.cells (nat_lit
  24) [AVal.int IntKind.i64 x.w, AVal.int IntKind.i64 x.s, AVal.int IntKind.i64 x.b, AVal.int IntKind.i64 x.o, AVal.int IntKind.i64 x.e, AVal.int IntKind.i64 x.r, AVal.int
  IntKind.i64 x.a, AVal.int IntKind.u64 x.l]) ∧ EqR (Res.cells (nat_lit 27) [AVal.int IntKind.i64 (newV x).w, AVal.int IntKind.i64 (newV x).s, AVal.int IntKind.i64 (newV
  x).b, AVal.int IntKind.i64 (newV x).o, AVal.int IntKind.i64 (newV x).e, AVal.int IntKind.i64 (newV x).r, AVal.int IntKind.i64 (newV x).a, AVal.int IntKind.u64 (newV
  x).l]) (Res.cells (nat_lit 27) [AVal.int IntKind.i64 (newV x).w, AVal.int IntKind.i64 (newV x).s, AVal.int IntKind.i64 (newV x).b, AVal.int IntKind.i64 (newV x).o,
  AVal.int IntKind.i64 (newV x).e, AVal.int IntKind.i64 (newV x).r, AVal.int IntKind.i64 (newV x).a, AVal.int IntKind.u64 (newV x).l]) ∧ EqR (Res.cells (nat_lit 3)
  [AVal.int IntKind.i64 (sizeV (newV x))]) (Res.cells (nat_lit 3) [AVal.int IntKind.i64 (sizeV (newV x))]) ∧ EqR (Res.vec (nat_lit 3) (putL (putL (oz ((3 : Nat) + Int.toNat
  x.w + Int.toNat x.s + (2 : Nat) * s) (sz x)) (entryV (newV x) (↑s : Int)) (sizeV (newV x))) (entryLinkV (newV x) (↑s : Int)) (sizeV (newV x)))) (Res.vec (nat_lit 3) (oz
  ((3 : Nat) + Int.toNat x.w + Int.toNat x.s + (2 : Nat) * s') (sz x))) ∧ EqR (Res.cells (nat_lit 32) [AVal.vec (nat_lit 3)]) (Res.cells (nat_lit 32) [AVal.vec (nat_lit
  3)]) ∧ True) ∧ true = true) ((∃ (s0 : Nat), (↑s0 : Int) ≤ totalV x ∧ (EqA (AVal.int IntKind.i64 (0 : Int)) (AVal.int IntKind.i64 (↑s0 : Int)) ∧ True) ∧ (EqR (Res.cells
  (nat_lit 24) [AVal.int IntKind.i64 x.w, AVal.int IntKind.i64 x.s, AVal.int IntKind.i64 x.b, AVal.int IntKind.i64 x.o, AVal.int IntKind.i64 x.e, AVal.int IntKind.i64 x.r,
  AVal.int IntKind.i64 x.a, AVal.int IntKind.u64 x.l]) (Res.cells (nat_lit 24) [AVal.int IntKind.i64 x.w, AVal.int IntKind.i64 x.s, AVal.int IntKind.i64 x.b, AVal.int
  IntKind.i64 x.o, AVal.int IntKind.i64 x.e, AVal.int IntKind.i64 x.r, AVal.int IntKind.i64 x.a, AVal.int IntKind.u64 x.l]) ∧ EqR (Res.cells (nat_lit 27) [AVal.int
  IntKind.i64 (newV x).w, AVal.int IntKind.i64 (newV x).s, AVal.int IntKind.i64 (newV x).b, AVal.int IntKind.i64 (newV x).o, AVal.int IntKind.i64 (newV x).e, AVal.int
  IntKind.i64 (newV x).r, AVal.int IntKind.i64 (newV x).a, AVal.int IntKind.u64 (newV x).l]) (Res.cells (nat_lit 27) [AVal.int IntKind.i64 (newV x).w, AVal.int IntKind.i64
  (newV x).s, AVal.int IntKind.i64 (newV x).b, AVal.int IntKind.i64 (newV x).o, AVal.int IntKind.i64 (newV x).e, AVal.int IntKind.i64 (newV x).r, AVal.int IntKind.i64 (newV
  x).a, AVal.int IntKind.u64 (newV x).l]) ∧ EqR (Res.cells (nat_lit 3) [AVal.int IntKind.i64 (sizeV (newV x))]) (Res.cells (nat_lit 3) [AVal.int IntKind.i64 (sizeV (newV
  x))]) ∧ EqR (Res.vec (nat_lit 3) (oz ((3 : Nat) + Int.toNat x.w + Int.toNat x.s + (2 : Nat) * s) (sz x))) (Res.vec (nat_lit 3) (oz ((3 : Nat) + Int.toNat x.w + Int.toNat
  x.s + (2 : Nat) * Int.toNat x.e + ((1 : Nat) + Int.toNat x.o) * s0) (sz x))) ∧ EqR (Res.cells (nat_lit 32) [AVal.vec (nat_lit 3)]) (Res.cells (nat_lit 32) [AVal.vec
  (nat_lit 3)]) ∧ True) ∧ true = true) ∧ ∀ (s : Nat), (↑s : Int) ≤ totalV x → True ∧ cnd (decide ((↑s : Int) < totalV (newV x)) == true) (cnd (decide ((↑s : Int) < (20 :
  Int))) (True ∧ cnd (decide (blockLinkV (newV x) (↑s : Int) ≥ (0 : Int)) == true) (cnd (decide (blockLinkV (newV x) (↑s : Int) < sizeV (newV x))) (((0 : Int) ≤ blockLinkV
  (newV x) (↑s : Int) ∧ blockLinkV (newV x) (↑s : Int) < (↑(List.length (oz ((3 : Nat) + Int.toNat x.w + Int.toNat x.s + (2 : Nat) * Int.toNat x.e + ((1 : Nat) + Int.toNat
  x.o) * s) (sz x))) : Int)) ∧ Int.toNat (blockLinkV (newV x) (↑s : Int)) < List.length (oz ((3 : Nat) + Int.toNat x.w + Int.toNat x.s + (2 : Nat) * Int.toNat x.e + ((1 :
  Nat) + Int.toNat x.o) * s) (sz x)) ∧ ((0 : Int) ≤ blockLinkV (newV x) (↑s : Int) ∧ blockLinkV (newV x) (↑s : Int) < (↑(List.length (oz ((3 : Nat) + Int.toNat x.w +
  Int.toNat x.s + (2 : Nat) * Int.toNat x.e + ((1 : Nat) + Int.toNat x.o) * s) (sz x))) : Int)) ∧ Int.toNat (blockLinkV (newV x) (↑s : Int)) < List.length (oz ((3 : Nat) +
  Int.toNat x.w + Int.toNat x.s + (2 : Nat) * Int.toNat x.e + ((1 : Nat) + Int.toNat x.o) * s) (sz x)) ∧ EqE (AVal.tup [], [(nat_lit 2, Res.cells (nat_lit 3) [AVal.int
  IntKind.i64 (sizeV (newV x))]), (nat_lit 3, Res.vec (nat_lit 3) (List.set (oz ((3 : Nat) + Int.toNat x.w + Int.toNat x.s + (2 : Nat) * Int.toNat x.e + ((1 : Nat) +
  Int.toNat x.o) * s) (sz x)) (Int.toNat (blockLinkV (newV x) (↑s : Int))) (IntKind.wrap IntKind.i64 (List.getD (oz ((3 : Nat) + Int.toNat x.w + Int.toNat x.s + (2 : Nat) *
  Int.toNat x.e + ((1 : Nat) + Int.toNat x.o) * s) (sz x)) (Int.toNat (blockLinkV (newV x) (↑s : Int))) (0 : Int) + (1 : Int))))), (nat_lit 4, Res.cells (nat_lit 32)
  [AVal.vec (nat_lit 3)])]) (AVal.tup [], [(nat_lit 2, Res.cells (nat_lit 3) [AVal.int IntKind.i64 (sizeV (newV x))]), (nat_lit 3, Res.vec (nat_lit 3) (putL (oz ((3 : Nat)
  + Int.toNat x.w + Int.toNat x.s + (2 : Nat) * Int.toNat x.e + ((1 : Nat) + Int.toNat x.o) * s) (sz x)) (blockLinkV (newV x) (↑s : Int)) (sizeV (newV x)))), (nat_lit 4,
  Res.cells (nat_lit 32) [AVal.vec (nat_lit 3)])])) (EqE (AVal.tup [], [(nat_lit 2, Res.cells (nat_lit 3) [AVal.int IntKind.i64 (sizeV (newV x))]), (nat_lit 3, Res.vec
  (nat_lit 3) (oz ((3 : Nat) + Int.toNat x.w + Int.toNat x.s + (2 : Nat) * Int.toNat x.e + ((1 : Nat) + Int.toNat x.o) * s) (sz x))), (nat_lit 4, Res.cells (nat_lit 32)
  [AVal.vec (nat_lit 3)])]) (AVal.tup [], [(nat_lit 2, Res.cells (nat_lit 3) [AVal.int IntKind.i64 (sizeV (newV x))]), (nat_lit 3, Res.vec (nat_lit 3) (putL (oz ((3 : Nat)
  + Int.toNat x.w + Int.toNat x.s + (2 : Nat) * Int.toNat x.e + ((1 : Nat) + Int.toNat x.o) * s) (sz x)) (blockLinkV (newV x) (↑s : Int)) (sizeV (newV x)))), (nat_lit 4,
  Res.cells (nat_lit 32) [AVal.vec (nat_lit 3)])]))) (EqE (AVal.tup [], [(nat_lit 2, Res.cells (nat_lit 3) [AVal.int IntKind.i64 (sizeV (newV x))]), (nat_lit 3, Res.vec
  (nat_lit 3) (oz ((3 : Nat) + Int.toNat x.w + Int.toNat x.s + (2 : Nat) * Int.toNat x.e + ((1 : Nat) + Int.toNat x.o) * s) (sz x))), (nat_lit 4, Res.cells (nat_lit 32)
  [AVal.vec (nat_lit 3)])]) (AVal.tup [], [(nat_lit 2, Res.cells (nat_lit 3) [AVal.int IntKind.i64 (sizeV (newV x))]), (nat_lit 3, Res.vec (nat_lit 3) (putL (oz ((3 : Nat)
  + Int.toNat x.w + Int.toNat x.s + (2 : Nat) * Int.toNat x.e + ((1 : Nat) + Int.toNat x.o) * s) (sz x)) (blockLinkV (newV x) (↑s : Int)) (sizeV (newV x)))), (nat_lit 4,
  Res.cells (nat_lit 32) [AVal.vec (nat_lit 3)])])) ∧ (∃ (s0 : Nat), (↑s0 : Int) ≤ x.o ∧ (EqA (AVal.int IntKind.i64 (0 : Int)) (AVal.int IntKind.i64 (↑s0 : Int)) ∧ True) ∧
  (EqR (Res.cells (nat_lit 24) [AVal.int IntKind.i64 x.w, AVal.int IntKind.i64 x.s, AVal.int IntKind.i64 x.b, AVal.int IntKind.i64 x.o, AVal.int IntKind.i64 x.e, AVal.int
  IntKind.i64 x.r, AVal.int IntKind.i64 x.a, AVal.int IntKind.u64 x.l]) (Res.cells (nat_lit 24) [AVal.int IntKind.i64 x.w, AVal.int IntKind.i64 x.s, AVal.int IntKind.i64
  x.b, AVal.int IntKind.i64 x.o, AVal.int IntKind.i64 x.e, AVal.int IntKind.i64 x.r, AVal.int IntKind.i64 x.a, AVal.int IntKind.u64 x.l]) ∧ EqR (Res.cells (nat_lit 27)
  [AVal.int IntKind.i64 (newV x).w, AVal.int IntKind.i64 (newV x).s, AVal.int IntKind.i64 (newV x).b, AVal.int IntKind.i64 (newV x).o, AVal.int IntKind.i64 (newV x).e,
  AVal.int IntKind.i64 (newV x).r, AVal.int IntKind.i64 (newV x).a, AVal.int IntKind.u64 (newV x).l]) (Res.cells (nat_lit 27) [AVal.int IntKind.i64 (newV x).w, AVal.int
  IntKind.i64 (newV x).s, AVal.int IntKind.i64 (newV x).b, AVal.int IntKind.i64 (newV x).o, AVal.int IntKind.i64 (newV x).e, AVal.int IntKind.i64 (newV x).r, AVal.int
  IntKind.i64 (newV x).a, AVal.int IntKind.u64 (newV x).l]) ∧ EqR (Res.cells (nat_lit 3) [AVal.int IntKind.i64 (sizeV (newV x))]) (Res.cells (nat_lit 3) [AVal.int
  IntKind.i64 (sizeV (newV x))]) ∧ EqR (Res.vec (nat_lit 3) (putL (oz ((3 : Nat) + Int.toNat x.w + Int.toNat x.s + (2 : Nat) * Int.toNat x.e + ((1 : Nat) + Int.toNat x.o) *
  s) (sz x)) (blockLinkV (newV x) (↑s : Int)) (sizeV (newV x)))) (Res.vec (nat_lit 3) (oz ((3 : Nat) + Int.toNat x.w + Int.toNat x.s + (2 : Nat) * Int.toNat x.e + ((1 :
  Nat) + Int.toNat x.o) * s + (1 : Nat) + s0) (sz x))) ∧ EqR (Res.cells (nat_lit 32) [AVal.vec (nat_lit 3)]) (Res.cells (nat_lit 32) [AVal.vec (nat_lit 3)]) ∧ True) ∧ true
  = true) ∧ ∀ (s_1 : Nat), (↑s_1 : Int) ≤ x.o → cnd (decide ((↑s_1 : Int) < x.o)) (True ∧ cnd (decide (wordV (newV x) (↑s : Int) (↑s_1 : Int) ≥ (0 : Int)) == true) (cnd
  (decide (wordV (newV x) (↑s : Int) (↑s_1 : Int) < sizeV (newV x))) (((0 : Int) ≤ wordV (newV x) (↑s : Int) (↑s_1 : Int) ∧ wordV (newV x) (↑s : Int) (↑s_1 : Int) <
  (↑(List.length (oz ((3 : Nat) + Int.toNat x.w + Int.toNat x.s + (2 : Nat) * Int.toNat x.e + ((1 : Nat) + Int.toNat x.o) * s + (1 : Nat) + s_1) (sz x))) : Int)) ∧
  Int.toNat (wordV (newV x) (↑s : Int) (↑s_1 : Int)) < List.length (oz ((3 : Nat) + Int.toNat x.w + Int.toNat x.s + (2 : Nat) * Int.toNat x.e + ((1 : Nat) + Int.toNat x.o)
  * s + (1 : Nat) + s_1) (sz x)) ∧ ((0 : Int) ≤ wordV (newV x) (↑s : Int) (↑s_1 : Int) ∧ wordV (newV x) (↑s : Int) (↑s_1 : Int) < (↑(List.length (oz ((3 : Nat) + Int.toNat
  x.w + Int.toNat x.s + (2 : Nat) * Int.toNat x.e + ((1 : Nat) + Int.toNat x.o) * s + (1 : Nat) + s_1) (sz x))) : Int)) ∧ Int.toNat (wordV (newV x) (↑s : Int) (↑s_1 : Int))
  < List.length (oz ((3 : Nat) + Int.toNat x.w + Int.toNat x.s + (2 : Nat) * Int.toNat x.e + ((1 : Nat) + Int.toNat x.o) * s + (1 : Nat) + s_1) (sz x)) ∧ EqE (AVal.tup [],
  [(nat_lit 2, Res.cells (nat_lit 3) [AVal.int IntKind.i64 (sizeV (newV x))]), (nat_lit 3, Res.vec (nat_lit 3) (List.set (oz ((3 : Nat) + Int.toNat x.w + Int.toNat x.s + (2
  : Nat) * Int.toNat x.e + ((1 : Nat) + Int.toNat x.o) * s + (1 : Nat) + s_1) (sz x)) (Int.toNat (wordV (newV x) (↑s : Int) (↑s_1 : Int))) (IntKind.wrap IntKind.i64
  (List.getD (oz ((3 : Nat) + Int.toNat x.w + Int.toNat x.s + (2 : Nat) * Int.toNat x.e + ((1 : Nat) + Int.toNat x.o) * s + (1 : Nat) + s_1) (sz x)) (Int.toNat (wordV (newV
  x) (↑s : Int) (↑s_1 : Int))) (0 : Int) + (1 : Int))))), (nat_lit 4, Res.cells (nat_lit 32) [AVal.vec (nat_lit 3)])]) (AVal.tup [], [(nat_lit 2, Res.cells (nat_lit 3)
  [AVal.int IntKind.i64 (sizeV (newV x))]), (nat_lit 3, Res.vec (nat_lit 3) (putL (oz ((3 : Nat) + Int.toNat x.w + Int.toNat x.s + (2 : Nat) * Int.toNat x.e + ((1 : Nat) +
  Int.toNat x.o) * s + (1 : Nat) + s_1) (sz x)) (wordV (newV x) (↑s : Int) (↑s_1 : Int)) (sizeV (newV x)))), (nat_lit 4, Res.cells (nat_lit 32) [AVal.vec (nat_lit 3)])]))
  (EqE (AVal.tup [], [(nat_lit 2, Res.cells (nat_lit 3) [AVal.int IntKind.i64 (sizeV (newV x))]), (nat_lit 3, Res.vec (nat_lit 3) (oz ((3 : Nat) + Int.toNat x.w + Int.toNat
  x.s + (2 : Nat) * Int.toNat x.e + ((1 : Nat) + Int.toNat x.o) * s + (1 : Nat) + s_1) (sz x))), (nat_lit 4, Res.cells (nat_lit 32) [AVal.vec (nat_lit 3)])]) (AVal.tup [],
  [(nat_lit 2, Res.cells (nat_lit 3) [AVal.int IntKind.i64 (sizeV (newV x))]), (nat_lit 3, Res.vec (nat_lit 3) (putL (oz ((3 : Nat) + Int.toNat x.w + Int.toNat x.s + (2 :
  Nat) * Int.toNat x.e + ((1 : Nat) + Int.toNat x.o) * s + (1 : Nat) + s_1) (sz x)) (wordV (newV x) (↑s : Int) (↑s_1 : Int)) (sizeV (newV x)))), (nat_lit 4, Res.cells
  (nat_lit 32) [AVal.vec (nat_lit 3)])]))) (EqE (AVal.tup [], [(nat_lit 2, Res.cells (nat_lit 3) [AVal.int IntKind.i64 (sizeV (newV x))]), (nat_lit 3, Res.vec (nat_lit 3)
  (oz ((3 : Nat) + Int.toNat x.w + Int.toNat x.s + (2 : Nat) * Int.toNat x.e + ((1 : Nat) + Int.toNat x.o) * s + (1 : Nat) + s_1) (sz x))), (nat_lit 4, Res.cells (nat_lit
  32) [AVal.vec (nat_lit 3)])]) (AVal.tup [], [(nat_lit 2, Res.cells (nat_lit 3) [AVal.int IntKind.i64 (sizeV (newV x))]), (nat_lit 3, Res.vec (nat_lit 3) (putL (oz ((3 :
  Nat) + Int.toNat x.w + Int.toNat x.s + (2 : Nat) * Int.toNat x.e + ((1 : Nat) + Int.toNat x.o) * s + (1 : Nat) + s_1) (sz x)) (wordV (newV x) (↑s : Int) (↑s_1 : Int))
  (sizeV (newV x)))), (nat_lit 4, Res.cells (nat_lit 32) [AVal.vec (nat_lit 3)])])) ∧ ∃ (s' : Nat), (↑s' : Int) ≤ x.o ∧ Int.toNat x.o - s' < Int.toNat x.o - s_1 ∧ (EqA
  (AVal.int IntKind.i64 (IntKind.wrap IntKind.i64 ((↑s_1 : Int) + (1 : Int)))) (AVal.int IntKind.i64 (↑s' : Int)) ∧ True) ∧ (EqR (Res.cells (nat_lit 24) [AVal.int
  IntKind.i64 x.w, AVal.int IntKind.i64 x.s, AVal.int IntKind.i64 x.b, AVal.int IntKind.i64 x.o, AVal.int IntKind.i64 x.e, AVal.int IntKind.i64 x.r, AVal.int IntKind.i64
  x.a, AVal.int IntKind.u64 x.l]) (Res.cells (nat_lit 24) [AVal.int IntKind.i64 x.w, AVal.int IntKind.i64 x.s, AVal.int IntKind.i64 x.b, AVal.int IntKind.i64 x.o, AVal.int
  IntKind.i64 x.e, AVal.int IntKind.i64 x.r, AVal.int IntKind.i64 x.a, AVal.int IntKind.u64 x.l]) ∧ EqR (Res.cells (nat_lit 27) [AVal.int IntKind.i64 (newV x).w, AVal.int
  IntKind.i64 (newV x).s, AVal.int IntKind.i64 (newV x).b, AVal.int IntKind.i64 (newV x).o, AVal.int IntKind.i64 (newV x).e, AVal.int IntKind.i64 (newV x).r, AVal.int
  IntKind.i64 (newV x).a, AVal.int IntKind.u64 (newV x).l]) (Res.cells (nat_lit 27) [AVal.int IntKind.i64 (newV x).w, AVal.int IntKind.i64 (newV x).s, AVal.int IntKind.i64
  (newV x).b, AVal.int IntKind.i64 (newV x).o, AVal.int IntKind.i64 (newV x).e, AVal.int IntKind.i64 (newV x).r, AVal.int IntKind.i64 (newV x).a, AVal.int IntKind.u64 (newV
  x).l]) ∧ EqR (Res.cells (nat_lit 3) [AVal.int IntKind.i64 (sizeV (newV x))]) (Res.cells (nat_lit 3) [AVal.int IntKind.i64 (sizeV (newV x))]) ∧ EqR (Res.vec (nat_lit 3)
  (putL (oz ((3 : Nat) + Int.toNat x.w + Int.toNat x.s + (2 : Nat) * Int.toNat x.e + ((1 : Nat) + Int.toNat x.o) * s + (1 : Nat) + s_1) (sz x)) (wordV (newV x) (↑s : Int)
  (↑s_1 : Int)) (sizeV (newV x)))) (Res.vec (nat_lit 3) (oz ((3 : Nat) + Int.toNat x.w + Int.toNat x.s + (2 : Nat) * Int.toNat x.e + ((1 : Nat) + Int.toNat x.o) * s + (1 :
  Nat) + s') (sz x))) ∧ EqR (Res.cells (nat_lit 32) [AVal.vec (nat_lit 3)]) (Res.cells (nat_lit 32) [AVal.vec (nat_lit 3)]) ∧ True) ∧ true = true) (∃ (s' : Nat), (↑s' :
  Int) ≤ totalV x ∧ Int.toNat (totalV x) - s' < Int.toNat (totalV x) - s ∧ (EqA (AVal.int IntKind.i64 (IntKind.wrap IntKind.i64 ((↑s : Int) + (1 : Int)))) (AVal.int
  IntKind.i64 (↑s' : Int)) ∧ True) ∧ (EqR (Res.cells (nat_lit 24) [AVal.int IntKind.i64 x.w, AVal.int IntKind.i64 x.s, AVal.int IntKind.i64 x.b, AVal.int IntKind.i64 x.o,
  AVal.int IntKind.i64 x.e, AVal.int IntKind.i64 x.r, AVal.int IntKind.i64 x.a, AVal.int IntKind.u64 x.l]) (Res.cells (nat_lit 24) [AVal.int IntKind.i64 x.w, AVal.int
  IntKind.i64 x.s, AVal.int IntKind.i64 x.b, AVal.int IntKind.i64 x.o, AVal.int IntKind.i64 x.e, AVal.int IntKind.i64 x.r, AVal.int IntKind.i64 x.a, AVal.int IntKind.u64
  x.l]) ∧ EqR (Res.cells (nat_lit 27) [AVal.int IntKind.i64 (newV x).w, AVal.int IntKind.i64 (newV x).s, AVal.int IntKind.i64 (newV x).b, AVal.int IntKind.i64 (newV x).o,
  AVal.int IntKind.i64 (newV x).e, AVal.int IntKind.i64 (newV x).r, AVal.int IntKind.i64 (newV x).a, AVal.int IntKind.u64 (newV x).l]) (Res.cells (nat_lit 27) [AVal.int
  IntKind.i64 (newV x).w, AVal.int IntKind.i64 (newV x).s, AVal.int IntKind.i64 (newV x).b, AVal.int IntKind.i64 (newV x).o, AVal.int IntKind.i64 (newV x).e, AVal.int
  IntKind.i64 (newV x).r, AVal.int IntKind.i64 (newV x).a, AVal.int IntKind.u64 (newV x).l]) ∧ EqR (Res.cells (nat_lit 3) [AVal.int IntKind.i64 (sizeV (newV x))])
  (Res.cells (nat_lit 3) [AVal.int IntKind.i64 (sizeV (newV x))]) ∧ EqR (Res.vec (nat_lit 3) (oz ((3 : Nat) + Int.toNat x.w + Int.toNat x.s + (2 : Nat) * Int.toNat x.e +
  ((1 : Nat) + Int.toNat x.o) * s + (1 : Nat) + s_1) (sz x))) (Res.vec (nat_lit 3) (oz ((3 : Nat) + Int.toNat x.w + Int.toNat x.s + (2 : Nat) * Int.toNat x.e + ((1 : Nat) +
  Int.toNat x.o) * s') (sz x))) ∧ EqR (Res.cells (nat_lit 32) [AVal.vec (nat_lit 3)]) (Res.cells (nat_lit 32) [AVal.vec (nat_lit 3)]) ∧ True) ∧ true = true)) ((∃ (s0 :
  Nat), s0 ≤ sz x ∧ (EqA (AVal.int IntKind.i64 (0 : Int)) (AVal.int IntKind.i64 (↑s0 : Int)) ∧ True) ∧ (EqR (Res.cells (nat_lit 24) [AVal.int IntKind.i64 x.w, AVal.int
  IntKind.i64 x.s, AVal.int IntKind.i64 x.b, AVal.int IntKind.i64 x.o, AVal.int IntKind.i64 x.e, AVal.int IntKind.i64 x.r, AVal.int IntKind.i64 x.a, AVal.int IntKind.u64
  x.l]) (Res.cells (nat_lit 24) [AVal.int IntKind.i64 x.w, AVal.int IntKind.i64 x.s, AVal.int IntKind.i64 x.b, AVal.int IntKind.i64 x.o, AVal.int IntKind.i64 x.e, AVal.int
  IntKind.i64 x.r, AVal.int IntKind.i64 x.a, AVal.int IntKind.u64 x.l]) ∧ EqR (Res.cells (nat_lit 27) [AVal.int IntKind.i64 (newV x).w, AVal.int IntKind.i64 (newV x).s,
  AVal.int IntKind.i64 (newV x).b, AVal.int IntKind.i64 (newV x).o, AVal.int IntKind.i64 (newV x).e, AVal.int IntKind.i64 (newV x).r, AVal.int IntKind.i64 (newV x).a,
  AVal.int IntKind.u64 (newV x).l]) (Res.cells (nat_lit 27) [AVal.int IntKind.i64 (newV x).w, AVal.int IntKind.i64 (newV x).s, AVal.int IntKind.i64 (newV x).b, AVal.int
  IntKind.i64 (newV x).o, AVal.int IntKind.i64 (newV x).e, AVal.int IntKind.i64 (newV x).r, AVal.int IntKind.i64 (newV x).a, AVal.int IntKind.u64 (newV x).l]) ∧ EqR
  (Res.cells (nat_lit 3) [AVal.int IntKind.i64 (sizeV (newV x))]) (Res.cells (nat_lit 3) [AVal.int IntKind.i64 (sizeV (newV x))]) ∧ EqR (Res.vec (nat_lit 3) (oz ((3 : Nat)
  + Int.toNat x.w + Int.toNat x.s + (2 : Nat) * Int.toNat x.e + ((1 : Nat) + Int.toNat x.o) * s) (sz x))) (Res.vec (nat_lit 3) (oz ((3 : Nat) + Int.toNat x.w + Int.toNat
  x.s + (2 : Nat) * Int.toNat x.e + ((1 : Nat) + Int.toNat x.o) * s) (sz x))) ∧ EqR (Res.cells (nat_lit 32) [AVal.vec (nat_lit 3)]) (Res.cells (nat_lit 32) [AVal.vec
  (nat_lit 3)]) ∧ True) ∧ true = true) ∧ ∀ (s_1 : Nat), s_1 ≤ sz x → cnd (decide ((↑s_1 : Int) < sizeV (newV x))) (((0 : Int) ≤ (↑s_1 : Int) ∧ (↑s_1 : Int) < (↑(List.length
  (oz ((3 : Nat) + Int.toNat x.w + Int.toNat x.s + (2 : Nat) * Int.toNat x.e + ((1 : Nat) + Int.toNat x.o) * s) (sz x))) : Int)) ∧ Int.toNat (↑s_1 : Int) < List.length (oz
  ((3 : Nat) + Int.toNat x.w + Int.toNat x.s + (2 : Nat) * Int.toNat x.e + ((1 : Nat) + Int.toNat x.o) * s) (sz x)) ∧ cnd (List.getD (oz ((3 : Nat) + Int.toNat x.w +
  Int.toNat x.s + (2 : Nat) * Int.toNat x.e + ((1 : Nat) + Int.toNat x.o) * s) (sz x)) (Int.toNat (↑s_1 : Int)) (0 : Int) != (1 : Int)) (K (AVal.bool false)) (∃ (s' : Nat),
  s' ≤ sz x ∧ sz x - s' < sz x - s_1 ∧ (EqA (AVal.int IntKind.i64 (IntKind.wrap IntKind.i64 ((↑s_1 : Int) + (1 : Int)))) (AVal.int IntKind.i64 (↑s' : Int)) ∧ True) ∧ (EqR
  (Res.cells (nat_lit 24) [AVal.int IntKind.i64 x.w, AVal.int IntKind.i64 x.s, AVal.int IntKind.i64 x.b, AVal.int IntKind.i64 x.o, AVal.int IntKind.i64 x.e, AVal.int
  IntKind.i64 x.r, AVal.int IntKind.i64 x.a, AVal.int IntKind.u64 x.l]) (Res.cells (nat_lit 24) [AVal.int IntKind.i64 x.w, AVal.int IntKind.i64 x.s, AVal.int IntKind.i64
  x.b, AVal.int IntKind.i64 x.o, AVal.int IntKind.i64 x.e, AVal.int IntKind.i64 x.r, AVal.int IntKind.i64 x.a, AVal.int IntKind.u64 x.l]) ∧ EqR (Res.cells (nat_lit 27)
  [AVal.int IntKind.i64 (newV x).w, AVal.int IntKind.i64 (newV x).s, AVal.int IntKind.i64 (newV x).b, AVal.int IntKind.i64 (newV x).o, AVal.int IntKind.i64 (newV x).e,
  AVal.int IntKind.i64 (newV x).r, AVal.int IntKind.i64 (newV x).a, AVal.int IntKind.u64 (newV x).l]) (Res.cells (nat_lit 27) [AVal.int IntKind.i64 (newV x).w, AVal.int
  IntKind.i64 (newV x).s, AVal.int IntKind.i64 (newV x).b, AVal.int IntKind.i64 (newV x).o, AVal.int IntKind.i64 (newV x).e, AVal.int IntKind.i64 (newV x).r, AVal.int
  IntKind.i64 (newV x).a, AVal.int IntKind.u64 (newV x).l]) ∧ EqR (Res.cells (nat_lit 3) [AVal.int IntKind.i64 (sizeV (newV x))]) (Res.cells (nat_lit 3) [AVal.int
  IntKind.i64 (sizeV (newV x))]) ∧ EqR (Res.vec (nat_lit 3) (oz ((3 : Nat) + Int.toNat x.w + Int.toNat x.s + (2 : Nat) * Int.toNat x.e + ((1 : Nat) + Int.toNat x.o) * s)
  (sz x))) (Res.vec (nat_lit 3) (oz ((3 : Nat) + Int.toNat x.w + Int.toNat x.s + (2 : Nat) * Int.toNat x.e + ((1 : Nat) + Int.toNat x.o) * s) (sz x))) ∧ EqR (Res.cells
  (nat_lit 32) [AVal.vec (nat_lit 3)]) (Res.cells (nat_lit 32) [AVal.vec (nat_lit 3)]) ∧ True) ∧ true = true)) (K (AVal.bool true)))) ((∃ (s0 : Nat), s0 ≤ sz x ∧ (EqA
  (AVal.int IntKind.i64 (0 : Int)) (AVal.int IntKind.i64 (↑s0 : Int)) ∧ True) ∧ (EqR (Res.cells (nat_lit 24) [AVal.int IntKind.i64 x.w, AVal.int IntKind.i64 x.s, AVal.int
  IntKind.i64 x.b, AVal.int IntKind.i64 x.o, AVal.int IntKind.i64 x.e, AVal.int IntKind.i64 x.r, AVal.int IntKind.i64 x.a, AVal.int IntKind.u64 x.l]) (Res.cells (nat_lit
  24) [AVal.int IntKind.i64 x.w, AVal.int IntKind.i64 x.s, AVal.int IntKind.i64 x.b, AVal.int IntKind.i64 x.o, AVal.int IntKind.i64 x.e, AVal.int IntKind.i64 x.r, AVal.int
  IntKind.i64 x.a, AVal.int IntKind.u64 x.l]) ∧ EqR (Res.cells (nat_lit 27) [AVal.int IntKind.i64 (newV x).w, AVal.int IntKind.i64 (newV x).s, AVal.int IntKind.i64 (newV
  x).b, AVal.int IntKind.i64 (newV x).o, AVal.int IntKind.i64 (newV x).e, AVal.int IntKind.i64 (newV x).r, AVal.int IntKind.i64 (newV x).a, AVal.int IntKind.u64 (newV
  x).l]) (Res.cells (nat_lit 27) [AVal.int IntKind.i64 (newV x).w, AVal.int IntKind.i64 (newV x).s, AVal.int IntKind.i64 (newV x).b, AVal.int IntKind.i64 (newV x).o,
  AVal.int IntKind.i64 (newV x).e, AVal.int IntKind.i64 (newV x).r, AVal.int IntKind.i64 (newV x).a, AVal.int IntKind.u64 (newV x).l]) ∧ EqR (Res.cells (nat_lit 3)
  [AVal.int IntKind.i64 (sizeV (newV x))]) (Res.cells (nat_lit 3) [AVal.int IntKind.i64 (sizeV (newV x))]) ∧ EqR (Res.vec (nat_lit 3) (oz ((3 : Nat) + Int.toNat x.w +
  Int.toNat x.s + (2 : Nat) * Int.toNat x.e + ((1 : Nat) + Int.toNat x.o) * s) (sz x))) (Res.vec (nat_lit 3) (oz ((3 : Nat) + Int.toNat x.w + Int.toNat x.s + (2 : Nat) *
  Int.toNat x.e + ((1 : Nat) + Int.toNat x.o) * s) (sz x))) ∧ EqR (Res.cells (nat_lit 32) [AVal.vec (nat_lit 3)]) (Res.cells (nat_lit 32) [AVal.vec (nat_lit 3)]) ∧ True) ∧
  true = true) ∧ ∀ (s_1 : Nat), s_1 ≤ sz x → cnd (decide ((↑s_1 : Int) < sizeV (newV x))) (((0 : Int) ≤ (↑s_1 : Int) ∧ (↑s_1 : Int) < (↑(List.length (oz ((3 : Nat) +
  Int.toNat x.w + Int.toNat x.s + (2 : Nat) * Int.toNat x.e + ((1 : Nat) + Int.toNat x.o) * s) (sz x))) : Int)) ∧ Int.toNat (↑s_1 : Int) < List.length (oz ((3 : Nat) +
  Int.toNat x.w + Int.toNat x.s + (2 : Nat) * Int.toNat x.e + ((1 : Nat) + Int.toNat x.o) * s) (sz x)) ∧ cnd (List.getD (oz ((3 : Nat) + Int.toNat x.w + Int.toNat x.s + (2
  : Nat) * Int.toNat x.e + ((1 : Nat) + Int.toNat x.o) * s) (sz x)) (Int.toNat (↑s_1 : Int)) (0 : Int) != (1 : Int)) (K (AVal.bool false)) (∃ (s' : Nat), s' ≤ sz x ∧ sz x -
  s' < sz x - s_1 ∧ (EqA (AVal.int IntKind.i64 (IntKind.wrap IntKind.i64 ((↑s_1 : Int) + (1 : Int)))) (AVal.int IntKind.i64 (↑s' : Int)) ∧ True) ∧ (EqR (Res.cells (nat_lit
  24) [AVal.int IntKind.i64 x.w, AVal.int IntKind.i64 x.s, AVal.int IntKind.i64 x.b, AVal.int IntKind.i64 x.o, AVal.int IntKind.i64 x.e, AVal.int IntKind.i64 x.r, AVal.int
  IntKind.i64 x.a, AVal.int IntKind.u64 x.l]) (Res.cells (nat_lit 24) [AVal.int IntKind.i64 x.w, AVal.int IntKind.i64 x.s, AVal.int IntKind.i64 x.b, AVal.int IntKind.i64
  x.o, AVal.int IntKind.i64 x.e, AVal.int IntKind.i64 x.r, AVal.int IntKind.i64 x.a, AVal.int IntKind.u64 x.l]) ∧ EqR (Res.cells (nat_lit 27) [AVal.int IntKind.i64 (newV
  x).w, AVal.int IntKind.i64 (newV x).s, AVal.int IntKind.i64 (newV x).b, AVal.int IntKind.i64 (newV x).o, AVal.int IntKind.i64 (newV x).e, AVal.int IntKind.i64 (newV x).r,
  AVal.int IntKind.i64 (newV x).a, AVal.int IntKind.u64 (newV x).l]) (Res.cells (nat_lit 27) [AVal.int IntKind.i64 (newV x).w, AVal.int IntKind.i64 (newV x).s, AVal.int
  IntKind.i64 (newV x).b, AVal.int IntKind.i64 (newV x).o, AVal.int IntKind.i64 (newV x).e, AVal.int IntKind.i64 (newV x).r, AVal.int IntKind.i64 (newV x).a, AVal.int
  IntKind.u64 (newV x).l]) ∧ EqR (Res.cells (nat_lit 3) [AVal.int IntKind.i64 (sizeV (newV x))]) (Res.cells (nat_lit 3) [AVal.int IntKind.i64 (sizeV (newV x))]) ∧ EqR
  (Res.vec (nat_lit 3) (oz ((3 : Nat) + Int.toNat x.w + Int.toNat x.s + (2 : Nat) * Int.toNat x.e + ((1 : Nat) + Int.toNat x.o) * s) (sz x))) (Res.vec (nat_lit 3) (oz ((3 :
  Nat) + Int.toNat x.w + Int.toNat x.s + (2 : Nat) * Int.toNat x.e + ((1 : Nat) + Int.toNat x.o) * s) (sz x))) ∧ EqR (Res.cells (nat_lit 32) [AVal.vec (nat_lit 3)])
  (Res.cells (nat_lit 32) [AVal.vec (nat_lit 3)]) ∧ True) ∧ true = true)) (K (AVal.bool true)))))))) (K (AVal.bool false)))) (K (AVal.bool true))) := by kernel_rfl

end Go.Proofs.Ytaikpkhclnkkaaa
