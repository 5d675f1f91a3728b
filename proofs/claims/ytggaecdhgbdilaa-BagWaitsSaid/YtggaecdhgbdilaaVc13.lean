/- What the functions of package bag compute, printed. No condition. -/
import Derived.Test.YtggaecdhgbdilaaBag6
set_option linter.unusedVariables false
set_option maxRecDepth 100000
namespace Go.Proofs.Ytggaecdhgbdilaa
open Go Go.Ax

theorem vc_lwaits (K : AVal El → Prop) (c : Cfg) (l : List Int) : aexecF cnd cx ΓB (specWaits l.length) 200 Try.f6 (codeOf Try.f6) (aWaitsL.enc (c, l)) [] (fun y _ => K
  y) = ( True ∧ cnd (decide ((↑(List.length l) : Int) > (40 : Int))) (K (AVal.bool true)) (((0 : Int) ≤ (↑(List.length l) : Int) ∧ (↑(List.length l) : Int) = (↑(List.length
  l) : Int) ∧ (↑(8 : Nat) : Int) * (↑(List.length l) : Int) ≤ (140737488355328 : Int) ∧ (↑(List.length l) : Int) ≤ (140737488355328 : Int)) ∧ (∃ (s0 : Nat × Wk × List Int),
  WaitInv (List.length l) s0.fst s0.snd.fst s0.snd.snd ∧ (EqA (AVal.int IntKind.i64 (0 : Int)) (AVal.int IntKind.i64 (↑(List.length s0.snd.fst.hold) : Int)) ∧ EqA (AVal.int
  IntKind.i64 (0 : Int)) (AVal.int IntKind.i64 (↑s0.fst : Int)) ∧ True) ∧ (EqR (Res.cells (38 : Nat) [AVal.int IntKind.i64 c.w, AVal.int IntKind.i64 c.s, AVal.int
  IntKind.i64 c.b, AVal.int IntKind.i64 c.o, AVal.int IntKind.i64 c.e, AVal.int IntKind.i64 c.r, AVal.int IntKind.i64 c.a, AVal.int IntKind.u64 c.l]) (Res.cells (38 : Nat)
  [AVal.int IntKind.i64 c.w, AVal.int IntKind.i64 c.s, AVal.int IntKind.i64 c.b, AVal.int IntKind.i64 c.o, AVal.int IntKind.i64 c.e, AVal.int IntKind.i64 c.r, AVal.int
  IntKind.i64 c.a, AVal.int IntKind.u64 c.l]) ∧ (True ∧ EqA (AVal.int IntKind.i64 (0 : Int)) (AVal.int IntKind.i64 s0.snd.fst.line) ∧ EqA (AVal.int IntKind.i64 (0 : Int))
  (AVal.int IntKind.i64 s0.snd.fst.op.k) ∧ EqA (AVal.int IntKind.u64 (0 : Int)) (AVal.int IntKind.u64 s0.snd.fst.op.t) ∧ EqA (AVal.int IntKind.u64 (0 : Int)) (AVal.int
  IntKind.u64 s0.snd.fst.op.x) ∧ EqA (AVal.int IntKind.i64 (0 : Int)) (AVal.int IntKind.i64 s0.snd.fst.op.s) ∧ EqA (AVal.bool false) (AVal.bool s0.snd.fst.op.u) ∧ EqA
  (AVal.int IntKind.i64 (0 : Int)) (AVal.int IntKind.i64 s0.snd.fst.op.b) ∧ EqA (AVal.int IntKind.i64 (0 : Int)) (AVal.int IntKind.i64 s0.snd.fst.op.n) ∧ EqA (AVal.bool
  false) (AVal.bool s0.snd.fst.pin) ∧ EqA (AVal.int IntKind.u64 (2 : Int)) (AVal.int IntKind.u64 s0.snd.fst.e) ∧ s0.snd.fst.rack = [] ∧ EqA (AVal.int IntKind.u64 (0 : Int))
  (AVal.int IntKind.u64 s0.snd.fst.t0) ∧ s0.snd.fst.l0 = [] ∧ EqA (AVal.int IntKind.u64 (0 : Int)) (AVal.int IntKind.u64 s0.snd.fst.t1) ∧ s0.snd.fst.l1 = [] ∧ EqA (AVal.int
  IntKind.u64 (0 : Int)) (AVal.int IntKind.u64 s0.snd.fst.t2) ∧ s0.snd.fst.l2 = [] ∧ s0.snd.fst.hold = [] ∧ EqA (AVal.int IntKind.i64 (0 : Int)) (AVal.int IntKind.i64
  s0.snd.fst.b) ∧ EqA (AVal.int IntKind.i64 (0 : Int)) (AVal.int IntKind.i64 s0.snd.fst.k) ∧ EqA (AVal.int IntKind.i64 (0 : Int)) (AVal.int IntKind.i64 s0.snd.fst.i) ∧ EqA
  (AVal.int IntKind.i64 (0 : Int)) (AVal.int IntKind.i64 s0.snd.fst.c) ∧ EqA (AVal.int IntKind.i64 (0 : Int)) (AVal.int IntKind.i64 s0.snd.fst.bor) ∧ EqA (AVal.int
  IntKind.u64 (0 : Int)) (AVal.int IntKind.u64 s0.snd.fst.h) ∧ EqA (AVal.int IntKind.u64 (0 : Int)) (AVal.int IntKind.u64 s0.snd.fst.n) ∧ EqA (AVal.int IntKind.u64 (0 :
  Int)) (AVal.int IntKind.u64 s0.snd.fst.v) ∧ EqA (AVal.int IntKind.u64 (0 : Int)) (AVal.int IntKind.u64 s0.snd.fst.u) ∧ EqA (AVal.int IntKind.u64 (0 : Int)) (AVal.int
  IntKind.u64 s0.snd.fst.g) ∧ EqA (AVal.int IntKind.i64 (0 : Int)) (AVal.int IntKind.i64 s0.snd.fst.j) ∧ s0.snd.fst.read = [] ∧ EqA (AVal.int IntKind.u64 (0 : Int))
  (AVal.int IntKind.u64 s0.snd.fst.t) ∧ EqA (AVal.int IntKind.i64 (0 : Int)) (AVal.int IntKind.i64 s0.snd.fst.ret) ∧ EqA (AVal.bool false) (AVal.bool s0.snd.fst.give) ∧
  True) ∧ EqR (Res.vec (22 : Nat) (List.replicate (Int.toNat (↑(List.length l) : Int)) (0 : Int))) (Res.vec (22 : Nat) s0.snd.snd) ∧ True) ∧ True) ∧ ∀ (s : Nat × Wk × List
  Int), WaitInv (List.length l) s.fst s.snd.fst s.snd.snd → cnd (decide ((↑s.fst : Int) < (↑(List.length l) : Int))) (((0 : Int) ≤ (↑s.fst : Int) ∧ (↑s.fst : Int) <
  (↑(List.length l) : Int)) ∧ ((6 : Int) = (0 : Int) → False) ∧ ((0 : Int) ≤ (↑s.fst : Int) ∧ (↑s.fst : Int) < (↑(List.length l) : Int)) ∧ ((6 : Int) = (0 : Int) → False) ∧
  Easy (Wk.with3 s.snd.fst (IntKind.wrap IntKind.u64 (s.snd.fst.e + Int.tmod (IntKind.wrap IntKind.u64 (List.getD l (Int.toNat (↑s.fst : Int)) (0 : Int))) (6 : Int)))) ∧
  cnd (!(bagPut (c, Wk.with3 s.snd.fst (IntKind.wrap IntKind.u64 (s.snd.fst.e + Int.tmod (IntKind.wrap IntKind.u64 (List.getD l (Int.toNat (↑s.fst : Int)) (0 : Int))) (6 :
  Int))), (↑s.fst : Int))).snd) (((0 : Int) ≤ (↑s.fst : Int) ∧ (↑s.fst : Int) < (↑(List.length s.snd.snd) : Int)) ∧ Int.toNat (↑s.fst : Int) < List.length s.snd.snd ∧ cnd
  (decide ((↑(List.length (bagPut (c, Wk.with3 s.snd.fst (IntKind.wrap IntKind.u64 (s.snd.fst.e + Int.tmod (IntKind.wrap IntKind.u64 (List.getD l (Int.toNat (↑s.fst : Int))
  (0 : Int))) (6 : Int))), (↑s.fst : Int))).fst.hold) : Int) < (↑(List.length s.snd.fst.hold) : Int)) == false) (cnd (decide ((↑(List.length (bagPut (c, Wk.with3 s.snd.fst
  (IntKind.wrap IntKind.u64 (s.snd.fst.e + Int.tmod (IntKind.wrap IntKind.u64 (List.getD l (Int.toNat (↑s.fst : Int)) (0 : Int))) (6 : Int))), (↑s.fst : Int))).fst.hold) :
  Int) > (↑(List.length l) : Int))) (K (AVal.bool false)) ((∃ (s0 : Nat), s0 ≤ List.length (bagPut (c, Wk.with3 s.snd.fst (IntKind.wrap IntKind.u64 (s.snd.fst.e + Int.tmod
  (IntKind.wrap IntKind.u64 (List.getD l (Int.toNat (↑s.fst : Int)) (0 : Int))) (6 : Int))), (↑s.fst : Int))).fst.hold ∧ (EqA (AVal.int IntKind.i64 (↑(List.length
  s.snd.fst.hold) : Int)) (AVal.int IntKind.i64 (↑s0 : Int)) ∧ True) ∧ (EqR (Res.cells (38 : Nat) [AVal.int IntKind.i64 c.w, AVal.int IntKind.i64 c.s, AVal.int IntKind.i64
  c.b, AVal.int IntKind.i64 c.o, AVal.int IntKind.i64 c.e, AVal.int IntKind.i64 c.r, AVal.int IntKind.i64 c.a, AVal.int IntKind.u64 c.l]) (Res.cells (38 : Nat) [AVal.int
  IntKind.i64 c.w, AVal.int IntKind.i64 c.s, AVal.int IntKind.i64 c.b, AVal.int IntKind.i64 c.o, AVal.int IntKind.i64 c.e, AVal.int IntKind.i64 c.r, AVal.int IntKind.i64
  c.a, AVal.int IntKind.u64 c.l]) ∧ (True ∧ True ∧ True ∧ True ∧ True ∧ True ∧ True ∧ True ∧ True ∧ True ∧ EqA (AVal.int IntKind.u64 (IntKind.wrap IntKind.u64 (s.snd.fst.e
  + Int.tmod (IntKind.wrap IntKind.u64 (List.getD l (Int.toNat (↑s.fst : Int)) (0 : Int))) (6 : Int)))) (AVal.int IntKind.u64 (IntKind.wrap IntKind.u64 (s.snd.fst.e +
  Int.tmod (IntKind.wrap IntKind.u64 (List.getD l (Int.toNat (↑s.fst : Int)) (0 : Int))) (6 : Int)))) ∧ True ∧ True ∧ True ∧ True ∧ True ∧ True ∧ True ∧ True ∧ True ∧ True
  ∧ True ∧ True ∧ True ∧ True ∧ True ∧ True ∧ True ∧ True ∧ True ∧ True ∧ True ∧ True ∧ True ∧ True) ∧ EqR (Res.vec (22 : Nat) (List.set s.snd.snd (Int.toNat (↑s.fst :
  Int)) (0 : Int))) (Res.vec (22 : Nat) (List.set s.snd.snd (Int.toNat (↑s.fst : Int)) (0 : Int))) ∧ (True ∧ EqA (AVal.int IntKind.i64 (bagPut (c, Wk.with3 s.snd.fst
  (IntKind.wrap IntKind.u64 (s.snd.fst.e + Int.tmod (IntKind.wrap IntKind.u64 (List.getD l (Int.toNat (↑s.fst : Int)) (0 : Int))) (6 : Int))), (↑s.fst : Int))).fst.line)
  (AVal.int IntKind.i64 (bagPut (c, Wk.with3 s.snd.fst (IntKind.wrap IntKind.u64 (s.snd.fst.e + Int.tmod (IntKind.wrap IntKind.u64 (List.getD l (Int.toNat (↑s.fst : Int))
  (0 : Int))) (6 : Int))), (↑s.fst : Int))).fst.line) ∧ EqA (AVal.int IntKind.i64 (bagPut (c, Wk.with3 s.snd.fst (IntKind.wrap IntKind.u64 (s.snd.fst.e + Int.tmod
  (IntKind.wrap IntKind.u64 (List.getD l (Int.toNat (↑s.fst : Int)) (0 : Int))) (6 : Int))), (↑s.fst : Int))).fst.op.k) (AVal.int IntKind.i64 (bagPut (c, Wk.with3 s.snd.fst
  (IntKind.wrap IntKind.u64 (s.snd.fst.e + Int.tmod (IntKind.wrap IntKind.u64 (List.getD l (Int.toNat (↑s.fst : Int)) (0 : Int))) (6 : Int))), (↑s.fst : Int))).fst.op.k) ∧
  EqA (AVal.int IntKind.u64 (bagPut (c, Wk.with3 s.snd.fst (IntKind.wrap IntKind.u64 (s.snd.fst.e + Int.tmod (IntKind.wrap IntKind.u64 (List.getD l (Int.toNat (↑s.fst :
  Int)) (0 : Int))) (6 : Int))), (↑s.fst : Int))).fst.op.t) (AVal.int IntKind.u64 (bagPut (c, Wk.with3 s.snd.fst (IntKind.wrap IntKind.u64 (s.snd.fst.e + Int.tmod
  (IntKind.wrap IntKind.u64 (List.getD l (Int.toNat (↑s.fst : Int)) (0 : Int))) (6 : Int))), (↑s.fst : Int))).fst.op.t) ∧ EqA (AVal.int IntKind.u64 (bagPut (c, Wk.with3
  s.snd.fst (IntKind.wrap IntKind.u64 (s.snd.fst.e + Int.tmod (IntKind.wrap IntKind.u64 (List.getD l (Int.toNat (↑s.fst : Int)) (0 : Int))) (6 : Int))), (↑s.fst :
  Int))).fst.op.x) (AVal.int IntKind.u64 (bagPut (c, Wk.with3 s.snd.fst (IntKind.wrap IntKind.u64 (s.snd.fst.e + Int.tmod (IntKind.wrap IntKind.u64 (List.getD l (Int.toNat
  (↑s.fst : Int)) (0 : Int))) (6 : Int))), (↑s.fst : Int))).fst.op.x) ∧ EqA (AVal.int IntKind.i64 (bagPut (c, Wk.with3 s.snd.fst (IntKind.wrap IntKind.u64 (s.snd.fst.e +
  Int.tmod (IntKind.wrap IntKind.u64 (List.getD l (Int.toNat (↑s.fst : Int)) (0 : Int))) (6 : Int))), (↑s.fst : Int))).fst.op.s) (AVal.int IntKind.i64 (bagPut (c, Wk.with3
  s.snd.fst (IntKind.wrap IntKind.u64 (s.snd.fst.e + Int.tmod (IntKind.wrap IntKind.u64 (List.getD l (Int.toNat (↑s.fst : Int)) (0 : Int))) (6 : Int))), (↑s.fst :
  Int))).fst.op.s) ∧ EqA (AVal.bool (bagPut (c, Wk.with3 s.snd.fst (IntKind.wrap IntKind.u64 (s.snd.fst.e + Int.tmod (IntKind.wrap IntKind.u64 (List.getD l (Int.toNat
  (↑s.fst : Int)) (0 : Int))) (6 : Int))), (↑s.fst : Int))).fst.op.u) (AVal.bool (bagPut (c, Wk.with3 s.snd.fst (IntKind.wrap IntKind.u64 (s.snd.fst.e + Int.tmod
  (IntKind.wrap IntKind.u64 (List.getD l (Int.toNat (↑s.fst : Int)) (0 : Int))) (6 : Int))), (↑s.fst : Int))).fst.op.u) ∧ EqA (AVal.int IntKind.i64 (bagPut (c, Wk.with3
  s.snd.fst (IntKind.wrap IntKind.u64 (s.snd.fst.e + Int.tmod (IntKind.wrap IntKind.u64 (List.getD l (Int.toNat (↑s.fst : Int)) (0 : Int))) (6 : Int))), (↑s.fst :
  Int))).fst.op.b) (AVal.int IntKind.i64 (bagPut (c, Wk.with3 s.snd.fst (IntKind.wrap IntKind.u64 (s.snd.fst.e + Int.tmod (IntKind.wrap IntKind.u64 (List.getD l (Int.toNat
  (↑s.fst : Int)) (0 : Int))) (6 : Int))), (↑s.fst : Int))).fst.op.b) ∧ EqA (AVal.int IntKind.i64 (bagPut (c, Wk.with3 s.snd.fst (IntKind.wrap IntKind.u64 (s.snd.fst.e +
  Int.tmod (IntKind.wrap IntKind.u64 (List.getD l (Int.toNat (↑s.fst : Int)) (0 : Int))) (6 : Int))), (↑s.fst : Int))).fst.op.n) (AVal.int IntKind.i64 (bagPut (c, Wk.with3
  s.snd.fst (IntKind.wrap IntKind.u64 (s.snd.fst.e + Int.tmod (IntKind.wrap IntKind.u64 (List.getD l (Int.toNat (↑s.fst : Int)) (0 : Int))) (6 : Int))), (↑s.fst :
  Int))).fst.op.n) ∧ EqA (AVal.bool (bagPut (c, Wk.with3 s.snd.fst (IntKind.wrap IntKind.u64 (s.snd.fst.e + Int.tmod (IntKind.wrap IntKind.u64 (List.getD l (Int.toNat
  (↑s.fst : Int)) (0 : Int))) (6 : Int))), (↑s.fst : Int))).fst.pin) (AVal.bool (bagPut (c, Wk.with3 s.snd.fst (IntKind.wrap IntKind.u64 (s.snd.fst.e + Int.tmod
  (IntKind.wrap IntKind.u64 (List.getD l (Int.toNat (↑s.fst : Int)) (0 : Int))) (6 : Int))), (↑s.fst : Int))).fst.pin) ∧ EqA (AVal.int IntKind.u64 (bagPut (c, Wk.with3
  s.snd.fst (IntKind.wrap IntKind.u64 (s.snd.fst.e + Int.tmod (IntKind.wrap IntKind.u64 (List.getD l (Int.toNat (↑s.fst : Int)) (0 : Int))) (6 : Int))), (↑s.fst :
  Int))).fst.e) (AVal.int IntKind.u64 (bagPut (c, Wk.with3 s.snd.fst (IntKind.wrap IntKind.u64 (s.snd.fst.e + Int.tmod (IntKind.wrap IntKind.u64 (List.getD l (Int.toNat
  (↑s.fst : Int)) (0 : Int))) (6 : Int))), (↑s.fst : Int))).fst.e) ∧ EqA (AVal.list (3 : Nat) (bagPut (c, Wk.with3 s.snd.fst (IntKind.wrap IntKind.u64 (s.snd.fst.e +
  Int.tmod (IntKind.wrap IntKind.u64 (List.getD l (Int.toNat (↑s.fst : Int)) (0 : Int))) (6 : Int))), (↑s.fst : Int))).fst.rack) (AVal.list (3 : Nat) (bagPut (c, Wk.with3
  s.snd.fst (IntKind.wrap IntKind.u64 (s.snd.fst.e + Int.tmod (IntKind.wrap IntKind.u64 (List.getD l (Int.toNat (↑s.fst : Int)) (0 : Int))) (6 : Int))), (↑s.fst :
  Int))).fst.rack) ∧ EqA (AVal.int IntKind.u64 (bagPut (c, Wk.with3 s.snd.fst (IntKind.wrap IntKind.u64 (s.snd.fst.e + Int.tmod (IntKind.wrap IntKind.u64 (List.getD l
  (Int.toNat (↑s.fst : Int)) (0 : Int))) (6 : Int))), (↑s.fst : Int))).fst.t0) (AVal.int IntKind.u64 (bagPut (c, Wk.with3 s.snd.fst (IntKind.wrap IntKind.u64 (s.snd.fst.e +
  Int.tmod (IntKind.wrap IntKind.u64 (List.getD l (Int.toNat (↑s.fst : Int)) (0 : Int))) (6 : Int))), (↑s.fst : Int))).fst.t0) ∧ EqA (AVal.list (3 : Nat) (bagPut (c,
  Wk.with3 s.snd.fst (IntKind.wrap IntKind.u64 (s.snd.fst.e + Int.tmod (IntKind.wrap IntKind.u64 (List.getD l (Int.toNat (↑s.fst : Int)) (0 : Int))) (6 : Int))), (↑s.fst :
  Int))).fst.l0) (AVal.list (3 : Nat) (bagPut (c, Wk.with3 s.snd.fst (IntKind.wrap IntKind.u64 (s.snd.fst.e + Int.tmod (IntKind.wrap IntKind.u64 (List.getD l (Int.toNat
  (↑s.fst : Int)) (0 : Int))) (6 : Int))), (↑s.fst : Int))).fst.l0) ∧ EqA (AVal.int IntKind.u64 (bagPut (c, Wk.with3 s.snd.fst (IntKind.wrap IntKind.u64 (s.snd.fst.e +
  Int.tmod (IntKind.wrap IntKind.u64 (List.getD l (Int.toNat (↑s.fst : Int)) (0 : Int))) (6 : Int))), (↑s.fst : Int))).fst.t1) (AVal.int IntKind.u64 (bagPut (c, Wk.with3
  s.snd.fst (IntKind.wrap IntKind.u64 (s.snd.fst.e + Int.tmod (IntKind.wrap IntKind.u64 (List.getD l (Int.toNat (↑s.fst : Int)) (0 : Int))) (6 : Int))), (↑s.fst :
  Int))).fst.t1) ∧ EqA (AVal.list (3 : Nat) (bagPut (c, Wk.with3 s.snd.fst (IntKind.wrap IntKind.u64 (s.snd.fst.e + Int.tmod (IntKind.wrap IntKind.u64 (List.getD l
  (Int.toNat (↑s.fst : Int)) (0 : Int))) (6 : Int))), (↑s.fst : Int))).fst.l1) (AVal.list (3 : Nat) (bagPut (c, Wk.with3 s.snd.fst (IntKind.wrap IntKind.u64 (s.snd.fst.e +
  Int.tmod (IntKind.wrap IntKind.u64 (List.getD l (Int.toNat (↑s.fst : Int)) (0 : Int))) (6 : Int))), (↑s.fst : Int))).fst.l1) ∧ EqA (AVal.int IntKind.u64 (bagPut (c,
  Wk.with3 s.snd.fst (IntKind.wrap IntKind.u64 (s.snd.fst.e + Int.tmod (IntKind.wrap IntKind.u64 (List.getD l (Int.toNat (↑s.fst : Int)) (0 : Int))) (6 : Int))), (↑s.fst :
  Int))).fst.t2) (AVal.int IntKind.u64 (bagPut (c, Wk.with3 s.snd.fst (IntKind.wrap IntKind.u64 (s.snd.fst.e + Int.tmod (IntKind.wrap IntKind.u64 (List.getD l (Int.toNat
  (↑s.fst : Int)) (0 : Int))) (6 : Int))), (↑s.fst : Int))).fst.t2) ∧ EqA (AVal.list (3 : Nat) (bagPut (c, Wk.with3 s.snd.fst (IntKind.wrap IntKind.u64 (s.snd.fst.e +
  Int.tmod (IntKind.wrap IntKind.u64 (List.getD l (Int.toNat (↑s.fst : Int)) (0 : Int))) (6 : Int))), (↑s.fst : Int))).fst.l2) (AVal.list (3 : Nat) (bagPut (c, Wk.with3
  s.snd.fst (IntKind.wrap IntKind.u64 (s.snd.fst.e + Int.tmod (IntKind.wrap IntKind.u64 (List.getD l (Int.toNat (↑s.fst : Int)) (0 : Int))) (6 : Int))), (↑s.fst :
  Int))).fst.l2) ∧ EqA (AVal.list (3 : Nat) (bagPut (c, Wk.with3 s.snd.fst (IntKind.wrap IntKind.u64 (s.snd.fst.e + Int.tmod (IntKind.wrap IntKind.u64 (List.getD l
  (Int.toNat (↑s.fst : Int)) (0 : Int))) (6 : Int))), (↑s.fst : Int))).fst.hold) (AVal.list (3 : Nat) (bagPut (c, Wk.with3 s.snd.fst (IntKind.wrap IntKind.u64 (s.snd.fst.e
  + Int.tmod (IntKind.wrap IntKind.u64 (List.getD l (Int.toNat (↑s.fst : Int)) (0 : Int))) (6 : Int))), (↑s.fst : Int))).fst.hold) ∧ EqA (AVal.int IntKind.i64 (bagPut (c,
  Wk.with3 s.snd.fst (IntKind.wrap IntKind.u64 (s.snd.fst.e + Int.tmod (IntKind.wrap IntKind.u64 (List.getD l (Int.toNat (↑s.fst : Int)) (0 : Int))) (6 : Int))), (↑s.fst :
  Int))).fst.b) (AVal.int IntKind.i64 (bagPut (c, Wk.with3 s.snd.fst (IntKind.wrap IntKind.u64 (s.snd.fst.e + Int.tmod (IntKind.wrap IntKind.u64 (List.getD l (Int.toNat
  (↑s.fst : Int)) (0 : Int))) (6 : Int))), (↑s.fst : Int))).fst.b) ∧ EqA (AVal.int IntKind.i64 (bagPut (c, Wk.with3 s.snd.fst (IntKind.wrap IntKind.u64 (s.snd.fst.e +
  Int.tmod (IntKind.wrap IntKind.u64 (List.getD l (Int.toNat (↑s.fst : Int)) (0 : Int))) (6 : Int))), (↑s.fst : Int))).fst.k) (AVal.int IntKind.i64 (bagPut (c, Wk.with3
  s.snd.fst (IntKind.wrap IntKind.u64 (s.snd.fst.e + Int.tmod (IntKind.wrap IntKind.u64 (List.getD l (Int.toNat (↑s.fst : Int)) (0 : Int))) (6 : Int))), (↑s.fst :
  Int))).fst.k) ∧ EqA (AVal.int IntKind.i64 (bagPut (c, Wk.with3 s.snd.fst (IntKind.wrap IntKind.u64 (s.snd.fst.e + Int.tmod (IntKind.wrap IntKind.u64 (List.getD l
  (Int.toNat (↑s.fst : Int)) (0 : Int))) (6 : Int))), (↑s.fst : Int))).fst.i) (AVal.int IntKind.i64 (bagPut (c, Wk.with3 s.snd.fst (IntKind.wrap IntKind.u64 (s.snd.fst.e +
  Int.tmod (IntKind.wrap IntKind.u64 (List.getD l (Int.toNat (↑s.fst : Int)) (0 : Int))) (6 : Int))), (↑s.fst : Int))).fst.i) ∧ EqA (AVal.int IntKind.i64 (bagPut (c,
  Wk.with3 s.snd.fst (IntKind.wrap IntKind.u64 (s.snd.fst.e + Int.tmod (IntKind.wrap IntKind.u64 (List.getD l (Int.toNat (↑s.fst : Int)) (0 : Int))) (6 : Int))), (↑s.fst :
  Int))).fst.c) (AVal.int IntKind.i64 (bagPut (c, Wk.with3 s.snd.fst (IntKind.wrap IntKind.u64 (s.snd.fst.e + Int.tmod (IntKind.wrap IntKind.u64 (List.getD l (Int.toNat
  (↑s.fst : Int)) (0 : Int))) (6 : Int))), (↑s.fst : Int))).fst.c) ∧ EqA (AVal.int IntKind.i64 (bagPut (c, Wk.with3 s.snd.fst (IntKind.wrap IntKind.u64 (s.snd.fst.e +
  Int.tmod (IntKind.wrap IntKind.u64 (List.getD l (Int.toNat (↑s.fst : Int)) (0 : Int))) (6 : Int))), (↑s.fst : Int))).fst.bor) (AVal.int IntKind.i64 (bagPut (c, Wk.with3
  s.snd.fst (IntKind.wrap IntKind.u64 (s.snd.fst.e + Int.tmod (IntKind.wrap IntKind.u64 (List.getD l (Int.toNat (↑s.fst : Int)) (0 : Int))) (6 : Int))), (↑s.fst :
  Int))).fst.bor) ∧ EqA (AVal.int IntKind.u64 (bagPut (c, Wk.with3 s.snd.fst (IntKind.wrap IntKind.u64 (s.snd.fst.e + Int.tmod (IntKind.wrap IntKind.u64 (List.getD l
  (Int.toNat (↑s.fst : Int)) (0 : Int))) (6 : Int))), (↑s.fst : Int))).fst.h) (AVal.int IntKind.u64 (bagPut (c, Wk.with3 s.snd.fst (IntKind.wrap IntKind.u64 (s.snd.fst.e +
  Int.tmod (IntKind.wrap IntKind.u64 (List.getD l (Int.toNat (↑s.fst : Int)) (0 : Int))) (6 : Int))), (↑s.fst : Int))).fst.h) ∧ EqA (AVal.int IntKind.u64 (bagPut (c,
  Wk.with3 s.snd.fst (IntKind.wrap IntKind.u64 (s.snd.fst.e + Int.tmod (IntKind.wrap IntKind.u64 (List.getD l (Int.toNat (↑s.fst : Int)) (0 : Int))) (6 : Int))), (↑s.fst :
  Int))).fst.n) (AVal.int IntKind.u64 (bagPut (c, Wk.with3 s.snd.fst (IntKind.wrap IntKind.u64 (s.snd.fst.e + Int.tmod (IntKind.wrap IntKind.u64 (List.getD l (Int.toNat
  (↑s.fst : Int)) (0 : Int))) (6 : Int))), (↑s.fst : Int))).fst.n) ∧ EqA (AVal.int IntKind.u64 (bagPut (c, Wk.with3 s.snd.fst (IntKind.wrap IntKind.u64 (s.snd.fst.e +
  Int.tmod (IntKind.wrap IntKind.u64 (List.getD l (Int.toNat (↑s.fst : Int)) (0 : Int))) (6 : Int))), (↑s.fst : Int))).fst.v) (AVal.int IntKind.u64 (bagPut (c, Wk.with3
  s.snd.fst (IntKind.wrap IntKind.u64 (s.snd.fst.e + Int.tmod (IntKind.wrap IntKind.u64 (List.getD l (Int.toNat (↑s.fst : Int)) (0 : Int))) (6 : Int))), (↑s.fst :
  Int))).fst.v) ∧ EqA (AVal.int IntKind.u64 (bagPut (c, Wk.with3 s.snd.fst (IntKind.wrap IntKind.u64 (s.snd.fst.e + Int.tmod (IntKind.wrap IntKind.u64 (List.getD l
  (Int.toNat (↑s.fst : Int)) (0 : Int))) (6 : Int))), (↑s.fst : Int))).fst.u) (AVal.int IntKind.u64 (bagPut (c, Wk.with3 s.snd.fst (IntKind.wrap IntKind.u64 (s.snd.fst.e +
  Int.tmod (IntKind.wrap IntKind.u64 (List.getD l (Int.toNat (↑s.fst : Int)) (0 : Int))) (6 : Int))), (↑s.fst : Int))).fst.u) ∧ EqA (AVal.int IntKind.u64 (bagPut (c,
  Wk.with3 s.snd.fst (IntKind.wrap IntKind.u64 (s.snd.fst.e + Int.tmod (IntKind.wrap IntKind.u64 (List.getD l (Int.toNat (↑s.fst : Int)) (0 : Int))) (6 : Int))), (↑s.fst :
  Int))).fst.g) (AVal.int IntKind.u64 (bagPut (c, Wk.with3 s.snd.fst (IntKind.wrap IntKind.u64 (s.snd.fst.e + Int.tmod (IntKind.wrap IntKind.u64 (List.getD l (Int.toNat
  (↑s.fst : Int)) (0 : Int))) (6 : Int))), (↑s.fst : Int))).fst.g) ∧ EqA (AVal.int IntKind.i64 (bagPut (c, Wk.with3 s.snd.fst (IntKind.wrap IntKind.u64 (s.snd.fst.e +
  Int.tmod (IntKind.wrap IntKind.u64 (List.getD l (Int.toNat (↑s.fst : Int)) (0 : Int))) (6 : Int))), (↑s.fst : Int))).fst.j) (AVal.int IntKind.i64 (bagPut (c, Wk.with3
  s.snd.fst (IntKind.wrap IntKind.u64 (s.snd.fst.e + Int.tmod (IntKind.wrap IntKind.u64 (List.getD l (Int.toNat (↑s.fst : Int)) (0 : Int))) (6 : Int))), (↑s.fst :
  Int))).fst.j) ∧ EqA (AVal.list (22 : Nat) (bagPut (c, Wk.with3 s.snd.fst (IntKind.wrap IntKind.u64 (s.snd.fst.e + Int.tmod (IntKind.wrap IntKind.u64 (List.getD l
  (Int.toNat (↑s.fst : Int)) (0 : Int))) (6 : Int))), (↑s.fst : Int))).fst.read) (AVal.list (22 : Nat) (bagPut (c, Wk.with3 s.snd.fst (IntKind.wrap IntKind.u64 (s.snd.fst.e
  + Int.tmod (IntKind.wrap IntKind.u64 (List.getD l (Int.toNat (↑s.fst : Int)) (0 : Int))) (6 : Int))), (↑s.fst : Int))).fst.read) ∧ EqA (AVal.int IntKind.u64 (bagPut (c,
  Wk.with3 s.snd.fst (IntKind.wrap IntKind.u64 (s.snd.fst.e + Int.tmod (IntKind.wrap IntKind.u64 (List.getD l (Int.toNat (↑s.fst : Int)) (0 : Int))) (6 : Int))), (↑s.fst :
  Int))).fst.t) (AVal.int IntKind.u64 (bagPut (c, Wk.with3 s.snd.fst (IntKind.wrap IntKind.u64 (s.snd.fst.e + Int.tmod (IntKind.wrap IntKind.u64 (List.getD l (Int.toNat
  (↑s.fst : Int)) (0 : Int))) (6 : Int))), (↑s.fst : Int))).fst.t) ∧ EqA (AVal.int IntKind.i64 (bagPut (c, Wk.with3 s.snd.fst (IntKind.wrap IntKind.u64 (s.snd.fst.e +
  Int.tmod (IntKind.wrap IntKind.u64 (List.getD l (Int.toNat (↑s.fst : Int)) (0 : Int))) (6 : Int))), (↑s.fst : Int))).fst.ret) (AVal.int IntKind.i64 (bagPut (c, Wk.with3
  s.snd.fst (IntKind.wrap IntKind.u64 (s.snd.fst.e + Int.tmod (IntKind.wrap IntKind.u64 (List.getD l (Int.toNat (↑s.fst : Int)) (0 : Int))) (6 : Int))), (↑s.fst :
  Int))).fst.ret) ∧ EqA (AVal.bool (bagPut (c, Wk.with3 s.snd.fst (IntKind.wrap IntKind.u64 (s.snd.fst.e + Int.tmod (IntKind.wrap IntKind.u64 (List.getD l (Int.toNat
  (↑s.fst : Int)) (0 : Int))) (6 : Int))), (↑s.fst : Int))).fst.give) (AVal.bool (bagPut (c, Wk.with3 s.snd.fst (IntKind.wrap IntKind.u64 (s.snd.fst.e + Int.tmod
  (IntKind.wrap IntKind.u64 (List.getD l (Int.toNat (↑s.fst : Int)) (0 : Int))) (6 : Int))), (↑s.fst : Int))).fst.give) ∧ True) ∧ True) ∧ True) ∧ ∀ (s_1 : Nat), s_1 ≤
  List.length (bagPut (c, Wk.with3 s.snd.fst (IntKind.wrap IntKind.u64 (s.snd.fst.e + Int.tmod (IntKind.wrap IntKind.u64 (List.getD l (Int.toNat (↑s.fst : Int)) (0 : Int)))
  (6 : Int))), (↑s.fst : Int))).fst.hold → cnd (decide ((↑s_1 : Int) < (↑(List.length (bagPut (c, Wk.with3 s.snd.fst (IntKind.wrap IntKind.u64 (s.snd.fst.e + Int.tmod
  (IntKind.wrap IntKind.u64 (List.getD l (Int.toNat (↑s.fst : Int)) (0 : Int))) (6 : Int))), (↑s.fst : Int))).fst.hold) : Int))) (((0 : Int) ≤ (↑s_1 : Int) ∧ (↑s_1 : Int) <
  (↑(List.length (bagPut (c, Wk.with3 s.snd.fst (IntKind.wrap IntKind.u64 (s.snd.fst.e + Int.tmod (IntKind.wrap IntKind.u64 (List.getD l (Int.toNat (↑s.fst : Int)) (0 :
  Int))) (6 : Int))), (↑s.fst : Int))).fst.hold) : Int)) ∧ cnd (decide (List.getD (bagPut (c, Wk.with3 s.snd.fst (IntKind.wrap IntKind.u64 (s.snd.fst.e + Int.tmod
  (IntKind.wrap IntKind.u64 (List.getD l (Int.toNat (↑s.fst : Int)) (0 : Int))) (6 : Int))), (↑s.fst : Int))).fst.hold (Int.toNat (↑s_1 : Int)) (0 : Int) < (0 : Int)) ==
  false) (cnd (decide (List.getD (bagPut (c, Wk.with3 s.snd.fst (IntKind.wrap IntKind.u64 (s.snd.fst.e + Int.tmod (IntKind.wrap IntKind.u64 (List.getD l (Int.toNat (↑s.fst
  : Int)) (0 : Int))) (6 : Int))), (↑s.fst : Int))).fst.hold (Int.toNat (↑s_1 : Int)) (0 : Int) ≥ (↑s.fst : Int)) == false) (((0 : Int) ≤ List.getD (bagPut (c, Wk.with3
  s.snd.fst (IntKind.wrap IntKind.u64 (s.snd.fst.e + Int.tmod (IntKind.wrap IntKind.u64 (List.getD l (Int.toNat (↑s.fst : Int)) (0 : Int))) (6 : Int))), (↑s.fst :
  Int))).fst.hold (Int.toNat (↑s_1 : Int)) (0 : Int) ∧ List.getD (bagPut (c, Wk.with3 s.snd.fst (IntKind.wrap IntKind.u64 (s.snd.fst.e + Int.tmod (IntKind.wrap IntKind.u64
  (List.getD l (Int.toNat (↑s.fst : Int)) (0 : Int))) (6 : Int))), (↑s.fst : Int))).fst.hold (Int.toNat (↑s_1 : Int)) (0 : Int) < (↑(List.length (List.set s.snd.snd
  (Int.toNat (↑s.fst : Int)) (0 : Int))) : Int)) ∧ Int.toNat (List.getD (bagPut (c, Wk.with3 s.snd.fst (IntKind.wrap IntKind.u64 (s.snd.fst.e + Int.tmod (IntKind.wrap
  IntKind.u64 (List.getD l (Int.toNat (↑s.fst : Int)) (0 : Int))) (6 : Int))), (↑s.fst : Int))).fst.hold (Int.toNat (↑s_1 : Int)) (0 : Int)) < List.length (List.set
  s.snd.snd (Int.toNat (↑s.fst : Int)) (0 : Int)) ∧ cnd ((List.getD (List.set s.snd.snd (Int.toNat (↑s.fst : Int)) (0 : Int)) (Int.toNat (List.getD (bagPut (c, Wk.with3
  s.snd.fst (IntKind.wrap IntKind.u64 (s.snd.fst.e + Int.tmod (IntKind.wrap IntKind.u64 (List.getD l (Int.toNat (↑s.fst : Int)) (0 : Int))) (6 : Int))), (↑s.fst :
  Int))).fst.hold (Int.toNat (↑s_1 : Int)) (0 : Int))) (0 : Int) == (0 : Int)) == false) (((0 : Int) ≤ List.getD (bagPut (c, Wk.with3 s.snd.fst (IntKind.wrap IntKind.u64
  (s.snd.fst.e + Int.tmod (IntKind.wrap IntKind.u64 (List.getD l (Int.toNat (↑s.fst : Int)) (0 : Int))) (6 : Int))), (↑s.fst : Int))).fst.hold (Int.toNat (↑s_1 : Int)) (0 :
  Int) ∧ List.getD (bagPut (c, Wk.with3 s.snd.fst (IntKind.wrap IntKind.u64 (s.snd.fst.e + Int.tmod (IntKind.wrap IntKind.u64 (List.getD l (Int.toNat (↑s.fst : Int)) (0 :
  Int))) (6 : Int))), (↑s.fst : Int))).fst.hold (Int.toNat (↑s_1 : Int)) (0 : Int) < (↑(List.length (List.set s.snd.snd (Int.toNat (↑s.fst : Int)) (0 : Int))) : Int)) ∧
  Int.toNat (List.getD (bagPut (c, Wk.with3 s.snd.fst (IntKind.wrap IntKind.u64 (s.snd.fst.e + Int.tmod (IntKind.wrap IntKind.u64 (List.getD l (Int.toNat (↑s.fst : Int)) (0
  : Int))) (6 : Int))), (↑s.fst : Int))).fst.hold (Int.toNat (↑s_1 : Int)) (0 : Int)) < List.length (List.set s.snd.snd (Int.toNat (↑s.fst : Int)) (0 : Int)) ∧ cnd (decide
  (IntKind.wrap IntKind.u64 (List.getD (List.set s.snd.snd (Int.toNat (↑s.fst : Int)) (0 : Int)) (Int.toNat (List.getD (bagPut (c, Wk.with3 s.snd.fst (IntKind.wrap
  IntKind.u64 (s.snd.fst.e + Int.tmod (IntKind.wrap IntKind.u64 (List.getD l (Int.toNat (↑s.fst : Int)) (0 : Int))) (6 : Int))), (↑s.fst : Int))).fst.hold (Int.toNat (↑s_1
  : Int)) (0 : Int))) (0 : Int) + (2 : Int)) > IntKind.wrap IntKind.u64 (s.snd.fst.e + Int.tmod (IntKind.wrap IntKind.u64 (List.getD l (Int.toNat (↑s.fst : Int)) (0 :
  Int))) (6 : Int)))) (K (AVal.bool false)) (∃ (s' : Nat), s' ≤ List.length (bagPut (c, Wk.with3 s.snd.fst (IntKind.wrap IntKind.u64 (s.snd.fst.e + Int.tmod (IntKind.wrap
  IntKind.u64 (List.getD l (Int.toNat (↑s.fst : Int)) (0 : Int))) (6 : Int))), (↑s.fst : Int))).fst.hold ∧ List.length (bagPut (c, Wk.with3 s.snd.fst (IntKind.wrap
  IntKind.u64 (s.snd.fst.e + Int.tmod (IntKind.wrap IntKind.u64 (List.getD l (Int.toNat (↑s.fst : Int)) (0 : Int))) (6 : Int))), (↑s.fst : Int))).fst.hold - s' <
  List.length (bagPut (c, Wk.with3 s.snd.fst (IntKind.wrap IntKind.u64 (s.snd.fst.e + Int.tmod (IntKind.wrap IntKind.u64 (List.getD l (Int.toNat (↑s.fst : Int)) (0 : Int)))
  (6 : Int))), (↑s.fst : Int))).fst.hold - s_1 ∧ (EqA (AVal.int IntKind.i64 (IntKind.wrap IntKind.i64 ((↑s_1 : Int) + (1 : Int)))) (AVal.int IntKind.i64 (↑s' : Int)) ∧
  True) ∧ (EqR (Res.cells (38 : Nat) [AVal.int IntKind.i64 c.w, AVal.int IntKind.i64 c.s, AVal.int IntKind.i64 c.b, AVal.int IntKind.i64 c.o, AVal.int IntKind.i64 c.e,
  AVal.int IntKind.i64 c.r, AVal.int IntKind.i64 c.a, AVal.int IntKind.u64 c.l]) (Res.cells (38 : Nat) [AVal.int IntKind.i64 c.w, AVal.int IntKind.i64 c.s, AVal.int
  IntKind.i64 c.b, AVal.int IntKind.i64 c.o, AVal.int IntKind.i64 c.e, AVal.int IntKind.i64 c.r, AVal.int IntKind.i64 c.a, AVal.int IntKind.u64 c.l]) ∧ (True ∧ True ∧ True
  ∧ True ∧ True ∧ True ∧ True ∧ True ∧ True ∧ True ∧ EqA (AVal.int IntKind.u64 (IntKind.wrap IntKind.u64 (s.snd.fst.e + Int.tmod (IntKind.wrap IntKind.u64 (List.getD l
  (Int.toNat (↑s.fst : Int)) (0 : Int))) (6 : Int)))) (AVal.int IntKind.u64 (IntKind.wrap IntKind.u64 (s.snd.fst.e + Int.tmod (IntKind.wrap IntKind.u64 (List.getD l
  (Int.toNat (↑s.fst : Int)) (0 : Int))) (6 : Int)))) ∧ True ∧ True ∧ True ∧ True ∧ True ∧ True ∧ True ∧ True ∧ True ∧ True ∧ True ∧ True ∧ True ∧ True ∧ True ∧ True ∧ True
  ∧ True ∧ True ∧ True ∧ True ∧ True ∧ True ∧ True) ∧ EqR (Res.vec (22 : Nat) (List.set s.snd.snd (Int.toNat (↑s.fst : Int)) (0 : Int))) (Res.vec (22 : Nat) (List.set
  s.snd.snd (Int.toNat (↑s.fst : Int)) (0 : Int))) ∧ (True ∧ EqA (AVal.int IntKind.i64 (bagPut (c, Wk.with3 s.snd.fst (IntKind.wrap IntKind.u64 (s.snd.fst.e + Int.tmod
  (IntKind.wrap IntKind.u64 (List.getD l (Int.toNat (↑s.fst : Int)) (0 : Int))) (6 : Int))), (↑s.fst : Int))).fst.line) (AVal.int IntKind.i64 (bagPut (c, Wk.with3 s.snd.fst
  (IntKind.wrap IntKind.u64 (s.snd.fst.e + Int.tmod (IntKind.wrap IntKind.u64 (List.getD l (Int.toNat (↑s.fst : Int)) (0 : Int))) (6 : Int))), (↑s.fst : Int))).fst.line) ∧
  EqA (AVal.int IntKind.i64 (bagPut (c, Wk.with3 s.snd.fst (IntKind.wrap IntKind.u64 (s.snd.fst.e + Int.tmod (IntKind.wrap IntKind.u64 (List.getD l (Int.toNat (↑s.fst :
  Int)) (0 : Int))) (6 : Int))), (↑s.fst : Int))).fst.op.k) (AVal.int IntKind.i64 (bagPut (c, Wk.with3 s.snd.fst (IntKind.wrap IntKind.u64 (s.snd.fst.e + Int.tmod
  (IntKind.wrap IntKind.u64 (List.getD l (Int.toNat (↑s.fst : Int)) (0 : Int))) (6 : Int))), (↑s.fst : Int))).fst.op.k) ∧ EqA (AVal.int IntKind.u64 (bagPut (c, Wk.with3
  s.snd.fst (IntKind.wrap IntKind.u64 (s.snd.fst.e + Int.tmod (IntKind.wrap IntKind.u64 (List.getD l (Int.toNat (↑s.fst : Int)) (0 : Int))) (6 : Int))), (↑s.fst :
  Int))).fst.op.t) (AVal.int IntKind.u64 (bagPut (c, Wk.with3 s.snd.fst (IntKind.wrap IntKind.u64 (s.snd.fst.e + Int.tmod (IntKind.wrap IntKind.u64 (List.getD l (Int.toNat
  (↑s.fst : Int)) (0 : Int))) (6 : Int))), (↑s.fst : Int))).fst.op.t) ∧ EqA (AVal.int IntKind.u64 (bagPut (c, Wk.with3 s.snd.fst (IntKind.wrap IntKind.u64 (s.snd.fst.e +
  Int.tmod (IntKind.wrap IntKind.u64 (List.getD l (Int.toNat (↑s.fst : Int)) (0 : Int))) (6 : Int))), (↑s.fst : Int))).fst.op.x) (AVal.int IntKind.u64 (bagPut (c, Wk.with3
  s.snd.fst (IntKind.wrap IntKind.u64 (s.snd.fst.e + Int.tmod (IntKind.wrap IntKind.u64 (List.getD l (Int.toNat (↑s.fst : Int)) (0 : Int))) (6 : Int))), (↑s.fst :
  Int))).fst.op.x) ∧ EqA (AVal.int IntKind.i64 (bagPut (c, Wk.with3 s.snd.fst (IntKind.wrap IntKind.u64 (s.snd.fst.e + Int.tmod (IntKind.wrap IntKind.u64 (List.getD l
  (Int.toNat (↑s.fst : Int)) (0 : Int))) (6 : Int))), (↑s.fst : Int))).fst.op.s) (AVal.int IntKind.i64 (bagPut (c, Wk.with3 s.snd.fst (IntKind.wrap IntKind.u64 (s.snd.fst.e
  + Int.tmod (IntKind.wrap IntKind.u64 (List.getD l (Int.toNat (↑s.fst : Int)) (0 : Int))) (6 : Int))), (↑s.fst : Int))).fst.op.s) ∧ EqA (AVal.bool (bagPut (c, Wk.with3
  s.snd.fst (IntKind.wrap IntKind.u64 (s.snd.fst.e + Int.tmod (IntKind.wrap IntKind.u64 (List.getD l (Int.toNat (↑s.fst : Int)) (0 : Int))) (6 : Int))), (↑s.fst :
  Int))).fst.op.u) (AVal.bool (bagPut (c, Wk.with3 s.snd.fst (IntKind.wrap IntKind.u64 (s.snd.fst.e + Int.tmod (IntKind.wrap IntKind.u64 (List.getD l (Int.toNat (↑s.fst :
  Int)) (0 : Int))) (6 : Int))), (↑s.fst : Int))).fst.op.u) ∧ EqA (AVal.int IntKind.i64 (bagPut (c, Wk.with3 s.snd.fst (IntKind.wrap IntKind.u64 (s.snd.fst.e + Int.tmod
  (IntKind.wrap IntKind.u64 (List.getD l (Int.toNat (↑s.fst : Int)) (0 : Int))) (6 : Int))), (↑s.fst : Int))).fst.op.b) (AVal.int IntKind.i64 (bagPut (c, Wk.with3 s.snd.fst
  (IntKind.wrap IntKind.u64 (s.snd.fst.e + Int.tmod (IntKind.wrap IntKind.u64 (List.getD l (Int.toNat (↑s.fst : Int)) (0 : Int))) (6 : Int))), (↑s.fst : Int))).fst.op.b) ∧
  EqA (AVal.int IntKind.i64 (bagPut (c, Wk.with3 s.snd.fst (IntKind.wrap IntKind.u64 (s.snd.fst.e + Int.tmod (IntKind.wrap IntKind.u64 (List.getD l (Int.toNat (↑s.fst :
  Int)) (0 : Int))) (6 : Int))), (↑s.fst : Int))).fst.op.n) (AVal.int IntKind.i64 (bagPut (c, Wk.with3 s.snd.fst (IntKind.wrap IntKind.u64 (s.snd.fst.e + Int.tmod
  (IntKind.wrap IntKind.u64 (List.getD l (Int.toNat (↑s.fst : Int)) (0 : Int))) (6 : Int))), (↑s.fst : Int))).fst.op.n) ∧ EqA (AVal.bool (bagPut (c, Wk.with3 s.snd.fst
  (IntKind.wrap IntKind.u64 (s.snd.fst.e + Int.tmod (IntKind.wrap IntKind.u64 (List.getD l (Int.toNat (↑s.fst : Int)) (0 : Int))) (6 : Int))), (↑s.fst : Int))).fst.pin)
  (AVal.bool (bagPut (c, Wk.with3 s.snd.fst (IntKind.wrap IntKind.u64 (s.snd.fst.e + Int.tmod (IntKind.wrap IntKind.u64 (List.getD l (Int.toNat (↑s.fst : Int)) (0 : Int)))
  (6 : Int))), (↑s.fst : Int))).fst.pin) ∧ EqA (AVal.int IntKind.u64 (bagPut (c, Wk.with3 s.snd.fst (IntKind.wrap IntKind.u64 (s.snd.fst.e + Int.tmod (IntKind.wrap
  IntKind.u64 (List.getD l (Int.toNat (↑s.fst : Int)) (0 : Int))) (6 : Int))), (↑s.fst : Int))).fst.e) (AVal.int IntKind.u64 (bagPut (c, Wk.with3 s.snd.fst (IntKind.wrap
  IntKind.u64 (s.snd.fst.e + Int.tmod (IntKind.wrap IntKind.u64 (List.getD l (Int.toNat (↑s.fst : Int)) (0 : Int))) (6 : Int))), (↑s.fst : Int))).fst.e) ∧ EqA (AVal.list (3
  : Nat) (bagPut (c, Wk.with3 s.snd.fst (IntKind.wrap IntKind.u64 (s.snd.fst.e + Int.tmod (IntKind.wrap IntKind.u64 (List.getD l (Int.toNat (↑s.fst : Int)) (0 : Int))) (6 :
  Int))), (↑s.fst : Int))).fst.rack) (AVal.list (3 : Nat) (bagPut (c, Wk.with3 s.snd.fst (IntKind.wrap IntKind.u64 (s.snd.fst.e + Int.tmod (IntKind.wrap IntKind.u64
  (List.getD l (Int.toNat (↑s.fst : Int)) (0 : Int))) (6 : Int))), (↑s.fst : Int))).fst.rack) ∧ EqA (AVal.int IntKind.u64 (bagPut (c, Wk.with3 s.snd.fst (IntKind.wrap
  IntKind.u64 (s.snd.fst.e + Int.tmod (IntKind.wrap IntKind.u64 (List.getD l (Int.toNat (↑s.fst : Int)) (0 : Int))) (6 : Int))), (↑s.fst : Int))).fst.t0) (AVal.int
  IntKind.u64 (bagPut (c, Wk.with3 s.snd.fst (IntKind.wrap IntKind.u64 (s.snd.fst.e + Int.tmod (IntKind.wrap IntKind.u64 (List.getD l (Int.toNat (↑s.fst : Int)) (0 : Int)))
  (6 : Int))), (↑s.fst : Int))).fst.t0) ∧ EqA (AVal.list (3 : Nat) (bagPut (c, Wk.with3 s.snd.fst (IntKind.wrap IntKind.u64 (s.snd.fst.e + Int.tmod (IntKind.wrap
  IntKind.u64 (List.getD l (Int.toNat (↑s.fst : Int)) (0 : Int))) (6 : Int))), (↑s.fst : Int))).fst.l0) (AVal.list (3 : Nat) (bagPut (c, Wk.with3 s.snd.fst (IntKind.wrap
  IntKind.u64 (s.snd.fst.e + Int.tmod (IntKind.wrap IntKind.u64 (List.getD l (Int.toNat (↑s.fst : Int)) (0 : Int))) (6 : Int))), (↑s.fst : Int))).fst.l0) ∧ EqA (AVal.int
  IntKind.u64 (bagPut (c, Wk.with3 s.snd.fst (IntKind.wrap IntKind.u64 (s.snd.fst.e + Int.tmod (IntKind.wrap IntKind.u64 (List.getD l (Int.toNat (↑s.fst : Int)) (0 : Int)))
  (6 : Int))), (↑s.fst : Int))).fst.t1) (AVal.int IntKind.u64 (bagPut (c, Wk.with3 s.snd.fst (IntKind.wrap IntKind.u64 (s.snd.fst.e + Int.tmod (IntKind.wrap IntKind.u64
  (List.getD l (Int.toNat (↑s.fst : Int)) (0 : Int))) (6 : Int))), (↑s.fst : Int))).fst.t1) ∧ EqA (AVal.list (3 : Nat) (bagPut (c, Wk.with3 s.snd.fst (IntKind.wrap
  IntKind.u64 (s.snd.fst.e + Int.tmod (IntKind.wrap IntKind.u64 (List.getD l (Int.toNat (↑s.fst : Int)) (0 : Int))) (6 : Int))), (↑s.fst : Int))).fst.l1) (AVal.list (3 :
  Nat) (bagPut (c, Wk.with3 s.snd.fst (IntKind.wrap IntKind.u64 (s.snd.fst.e + Int.tmod (IntKind.wrap IntKind.u64 (List.getD l (Int.toNat (↑s.fst : Int)) (0 : Int))) (6 :
  Int))), (↑s.fst : Int))).fst.l1) ∧ EqA (AVal.int IntKind.u64 (bagPut (c, Wk.with3 s.snd.fst (IntKind.wrap IntKind.u64 (s.snd.fst.e + Int.tmod (IntKind.wrap IntKind.u64
  (List.getD l (Int.toNat (↑s.fst : Int)) (0 : Int))) (6 : Int))), (↑s.fst : Int))).fst.t2) (AVal.int IntKind.u64 (bagPut (c, Wk.with3 s.snd.fst (IntKind.wrap IntKind.u64
  (s.snd.fst.e + Int.tmod (IntKind.wrap IntKind.u64 (List.getD l (Int.toNat (↑s.fst : Int)) (0 : Int))) (6 : Int))), (↑s.fst : Int))).fst.t2) ∧ EqA (AVal.list (3 : Nat)
  (bagPut (c, Wk.with3 s.snd.fst (IntKind.wrap IntKind.u64 (s.snd.fst.e + Int.tmod (IntKind.wrap IntKind.u64 (List.getD l (Int.toNat (↑s.fst : Int)) (0 : Int))) (6 :
  Int))), (↑s.fst : Int))).fst.l2) (AVal.list (3 : Nat) (bagPut (c, Wk.with3 s.snd.fst (IntKind.wrap IntKind.u64 (s.snd.fst.e + Int.tmod (IntKind.wrap IntKind.u64
  (List.getD l (Int.toNat (↑s.fst : Int)) (0 : Int))) (6 : Int))), (↑s.fst : Int))).fst.l2) ∧ EqA (AVal.list (3 : Nat) (bagPut (c, Wk.with3 s.snd.fst (IntKind.wrap
  IntKind.u64 (s.snd.fst.e + Int.tmod (IntKind.wrap IntKind.u64 (List.getD l (Int.toNat (↑s.fst : Int)) (0 : Int))) (6 : Int))), (↑s.fst : Int))).fst.hold) (AVal.list (3 :
  Nat) (bagPut (c, Wk.with3 s.snd.fst (IntKind.wrap IntKind.u64 (s.snd.fst.e + Int.tmod (IntKind.wrap IntKind.u64 (List.getD l (Int.toNat (↑s.fst : Int)) (0 : Int))) (6 :
  Int))), (↑s.fst : Int))).fst.hold) ∧ EqA (AVal.int IntKind.i64 (bagPut (c, Wk.with3 s.snd.fst (IntKind.wrap IntKind.u64 (s.snd.fst.e + Int.tmod (IntKind.wrap IntKind.u64
  (List.getD l (Int.toNat (↑s.fst : Int)) (0 : Int))) (6 : Int))), (↑s.fst : Int))).fst.b) (AVal.int IntKind.i64 (bagPut (c, Wk.with3 s.snd.fst (IntKind.wrap IntKind.u64
  (s.snd.fst.e + Int.tmod (IntKind.wrap IntKind.u64 (List.getD l (Int.toNat (↑s.fst : Int)) (0 : Int))) (6 : Int))), (↑s.fst : Int))).fst.b) ∧ EqA (AVal.int IntKind.i64
  (bagPut (c, Wk.with3 s.snd.fst (IntKind.wrap IntKind.u64 (s.snd.fst.e + Int.tmod (IntKind.wrap IntKind.u64 (List.getD l (Int.toNat (↑s.fst : Int)) (0 : Int))) (6 :
  Int))), (↑s.fst : Int))).fst.k) (AVal.int IntKind.i64 (bagPut (c, Wk.with3 s.snd.fst (IntKind.wrap IntKind.u64 (s.snd.fst.e + Int.tmod (IntKind.wrap IntKind.u64
  (List.getD l (Int.toNat (↑s.fst : Int)) (0 : Int))) (6 : Int))), (↑s.fst : Int))).fst.k) ∧ EqA (AVal.int IntKind.i64 (bagPut (c, Wk.with3 s.snd.fst (IntKind.wrap
  IntKind.u64 (s.snd.fst.e + Int.tmod (IntKind.wrap IntKind.u64 (List.getD l (Int.toNat (↑s.fst : Int)) (0 : Int))) (6 : Int))), (↑s.fst : Int))).fst.i) (AVal.int
  IntKind.i64 (bagPut (c, Wk.with3 s.snd.fst (IntKind.wrap IntKind.u64 (s.snd.fst.e + Int.tmod (IntKind.wrap IntKind.u64 (List.getD l (Int.toNat (↑s.fst : Int)) (0 : Int)))
  (6 : Int))), (↑s.fst : Int))).fst.i) ∧ EqA (AVal.int IntKind.i64 (bagPut (c, Wk.with3 s.snd.fst (IntKind.wrap IntKind.u64 (s.snd.fst.e + Int.tmod (IntKind.wrap
  IntKind.u64 (List.getD l (Int.toNat (↑s.fst : Int)) (0 : Int))) (6 : Int))), (↑s.fst : Int))).fst.c) (AVal.int IntKind.i64 (bagPut (c, Wk.with3 s.snd.fst (IntKind.wrap
  IntKind.u64 (s.snd.fst.e + Int.tmod (IntKind.wrap IntKind.u64 (List.getD l (Int.toNat (↑s.fst : Int)) (0 : Int))) (6 : Int))), (↑s.fst : Int))).fst.c) ∧ EqA (AVal.int
  IntKind.i64 (bagPut (c, Wk.with3 s.snd.fst (IntKind.wrap IntKind.u64 (s.snd.fst.e + Int.tmod (IntKind.wrap IntKind.u64 (List.getD l (Int.toNat (↑s.fst : Int)) (0 : Int)))
  (6 : Int))), (↑s.fst : Int))).fst.bor) (AVal.int IntKind.i64 (bagPut (c, Wk.with3 s.snd.fst (IntKind.wrap IntKind.u64 (s.snd.fst.e + Int.tmod (IntKind.wrap IntKind.u64
  (List.getD l (Int.toNat (↑s.fst : Int)) (0 : Int))) (6 : Int))), (↑s.fst : Int))).fst.bor) ∧ EqA (AVal.int IntKind.u64 (bagPut (c, Wk.with3 s.snd.fst (IntKind.wrap
  IntKind.u64 (s.snd.fst.e + Int.tmod (IntKind.wrap IntKind.u64 (List.getD l (Int.toNat (↑s.fst : Int)) (0 : Int))) (6 : Int))), (↑s.fst : Int))).fst.h) (AVal.int
  IntKind.u64 (bagPut (c, Wk.with3 s.snd.fst (IntKind.wrap IntKind.u64 (s.snd.fst.e + Int.tmod (IntKind.wrap IntKind.u64 (List.getD l (Int.toNat (↑s.fst : Int)) (0 : Int)))
  (6 : Int))), (↑s.fst : Int))).fst.h) ∧ EqA (AVal.int IntKind.u64 (bagPut (c, Wk.with3 s.snd.fst (IntKind.wrap IntKind.u64 (s.snd.fst.e + Int.tmod (IntKind.wrap
  IntKind.u64 (List.getD l (Int.toNat (↑s.fst : Int)) (0 : Int))) (6 : Int))), (↑s.fst : Int))).fst.n) (AVal.int IntKind.u64 (bagPut (c, Wk.with3 s.snd.fst (IntKind.wrap
  IntKind.u64 (s.snd.fst.e + Int.tmod (IntKind.wrap IntKind.u64 (List.getD l (Int.toNat (↑s.fst : Int)) (0 : Int))) (6 : Int))), (↑s.fst : Int))).fst.n) ∧ EqA (AVal.int
  IntKind.u64 (bagPut (c, Wk.with3 s.snd.fst (IntKind.wrap IntKind.u64 (s.snd.fst.e + Int.tmod (IntKind.wrap IntKind.u64 (List.getD l (Int.toNat (↑s.fst : Int)) (0 : Int)))
  (6 : Int))), (↑s.fst : Int))).fst.v) (AVal.int IntKind.u64 (bagPut (c, Wk.with3 s.snd.fst (IntKind.wrap IntKind.u64 (s.snd.fst.e + Int.tmod (IntKind.wrap IntKind.u64
  (List.getD l (Int.toNat (↑s.fst : Int)) (0 : Int))) (6 : Int))), (↑s.fst : Int))).fst.v) ∧ EqA (AVal.int IntKind.u64 (bagPut (c, Wk.with3 s.snd.fst (IntKind.wrap
  IntKind.u64 (s.snd.fst.e + Int.tmod (IntKind.wrap IntKind.u64 (List.getD l (Int.toNat (↑s.fst : Int)) (0 : Int))) (6 : Int))), (↑s.fst : Int))).fst.u) (AVal.int
  IntKind.u64 (bagPut (c, Wk.with3 s.snd.fst (IntKind.wrap IntKind.u64 (s.snd.fst.e + Int.tmod (IntKind.wrap IntKind.u64 (List.getD l (Int.toNat (↑s.fst : Int)) (0 : Int)))
  (6 : Int))), (↑s.fst : Int))).fst.u) ∧ EqA (AVal.int IntKind.u64 (bagPut (c, Wk.with3 s.snd.fst (IntKind.wrap IntKind.u64 (s.snd.fst.e + Int.tmod (IntKind.wrap
  IntKind.u64 (List.getD l (Int.toNat (↑s.fst : Int)) (0 : Int))) (6 : Int))), (↑s.fst : Int))).fst.g) (AVal.int IntKind.u64 (bagPut (c, Wk.with3 s.snd.fst (IntKind.wrap
  IntKind.u64 (s.snd.fst.e + Int.tmod (IntKind.wrap IntKind.u64 (List.getD l (Int.toNat (↑s.fst : Int)) (0 : Int))) (6 : Int))), (↑s.fst : Int))).fst.g) ∧ EqA (AVal.int
  IntKind.i64 (bagPut (c, Wk.with3 s.snd.fst (IntKind.wrap IntKind.u64 (s.snd.fst.e + Int.tmod (IntKind.wrap IntKind.u64 (List.getD l (Int.toNat (↑s.fst : Int)) (0 : Int)))
  (6 : Int))), (↑s.fst : Int))).fst.j) (AVal.int IntKind.i64 (bagPut (c, Wk.with3 s.snd.fst (IntKind.wrap IntKind.u64 (s.snd.fst.e + Int.tmod (IntKind.wrap IntKind.u64
  (List.getD l (Int.toNat (↑s.fst : Int)) (0 : Int))) (6 : Int))), (↑s.fst : Int))).fst.j) ∧ EqA (AVal.list (22 : Nat) (bagPut (c, Wk.with3 s.snd.fst (IntKind.wrap
  IntKind.u64 (s.snd.fst.e + Int.tmod (IntKind.wrap IntKind.u64 (List.getD l (Int.toNat (↑s.fst : Int)) (0 : Int))) (6 : Int))), (↑s.fst : Int))).fst.read) (AVal.list (22 :
  Nat) (bagPut (c, Wk.with3 s.snd.fst (IntKind.wrap IntKind.u64 (s.snd.fst.e + Int.tmod (IntKind.wrap IntKind.u64 (List.getD l (Int.toNat (↑s.fst : Int)) (0 : Int))) (6 :
  Int))), (↑s.fst : Int))).fst.read) ∧ EqA (AVal.int IntKind.u64 (bagPut (c, Wk.with3 s.snd.fst (IntKind.wrap IntKind.u64 (s.snd.fst.e + Int.tmod (IntKind.wrap IntKind.u64
  (List.getD l (Int.toNat (↑s.fst : Int)) (0 : Int))) (6 : Int))), (↑s.fst : Int))).fst.t) (AVal.int IntKind.u64 (bagPut (c, Wk.with3 s.snd.fst (IntKind.wrap IntKind.u64
  (s.snd.fst.e + Int.tmod (IntKind.wrap IntKind.u64 (List.getD l (Int.toNat (↑s.fst : Int)) (0 : Int))) (6 : Int))), (↑s.fst : Int))).fst.t) ∧ EqA (AVal.int IntKind.i64
  (bagPut (c, Wk.with3 s.snd.fst (IntKind.wrap IntKind.u64 (s.snd.fst.e + Int.tmod (IntKind.wrap IntKind.u64 (List.getD l (Int.toNat (↑s.fst : Int)) (0 : Int))) (6 :
  Int))), (↑s.fst : Int))).fst.ret) (AVal.int IntKind.i64 (bagPut (c, Wk.with3 s.snd.fst (IntKind.wrap IntKind.u64 (s.snd.fst.e + Int.tmod (IntKind.wrap IntKind.u64
  (List.getD l (Int.toNat (↑s.fst : Int)) (0 : Int))) (6 : Int))), (↑s.fst : Int))).fst.ret) ∧ EqA (AVal.bool (bagPut (c, Wk.with3 s.snd.fst (IntKind.wrap IntKind.u64
  (s.snd.fst.e + Int.tmod (IntKind.wrap IntKind.u64 (List.getD l (Int.toNat (↑s.fst : Int)) (0 : Int))) (6 : Int))), (↑s.fst : Int))).fst.give) (AVal.bool (bagPut (c,
  Wk.with3 s.snd.fst (IntKind.wrap IntKind.u64 (s.snd.fst.e + Int.tmod (IntKind.wrap IntKind.u64 (List.getD l (Int.toNat (↑s.fst : Int)) (0 : Int))) (6 : Int))), (↑s.fst :
  Int))).fst.give) ∧ True) ∧ True) ∧ True)) (K (AVal.bool false))) (K (AVal.bool false))) (K (AVal.bool false))) (∃ (s' : Nat × Wk × List Int), WaitInv (List.length l)
  s'.fst s'.snd.fst s'.snd.snd ∧ List.length l - s'.fst < List.length l - s.fst ∧ (EqA (AVal.int IntKind.i64 (↑(List.length (bagPut (c, Wk.with3 s.snd.fst (IntKind.wrap
  IntKind.u64 (s.snd.fst.e + Int.tmod (IntKind.wrap IntKind.u64 (List.getD l (Int.toNat (↑s.fst : Int)) (0 : Int))) (6 : Int))), (↑s.fst : Int))).fst.hold) : Int))
  (AVal.int IntKind.i64 (↑(List.length s'.snd.fst.hold) : Int)) ∧ EqA (AVal.int IntKind.i64 (IntKind.wrap IntKind.i64 ((↑s.fst : Int) + (1 : Int)))) (AVal.int IntKind.i64
  (↑s'.fst : Int)) ∧ True) ∧ (EqR (Res.cells (38 : Nat) [AVal.int IntKind.i64 c.w, AVal.int IntKind.i64 c.s, AVal.int IntKind.i64 c.b, AVal.int IntKind.i64 c.o, AVal.int
  IntKind.i64 c.e, AVal.int IntKind.i64 c.r, AVal.int IntKind.i64 c.a, AVal.int IntKind.u64 c.l]) (Res.cells (38 : Nat) [AVal.int IntKind.i64 c.w, AVal.int IntKind.i64 c.s,
  AVal.int IntKind.i64 c.b, AVal.int IntKind.i64 c.o, AVal.int IntKind.i64 c.e, AVal.int IntKind.i64 c.r, AVal.int IntKind.i64 c.a, AVal.int IntKind.u64 c.l]) ∧ (True ∧ EqA
  (AVal.int IntKind.i64 (bagPut (c, Wk.with3 s.snd.fst (IntKind.wrap IntKind.u64 (s.snd.fst.e + Int.tmod (IntKind.wrap IntKind.u64 (List.getD l (Int.toNat (↑s.fst : Int))
  (0 : Int))) (6 : Int))), (↑s.fst : Int))).fst.line) (AVal.int IntKind.i64 s'.snd.fst.line) ∧ EqA (AVal.int IntKind.i64 (bagPut (c, Wk.with3 s.snd.fst (IntKind.wrap
  IntKind.u64 (s.snd.fst.e + Int.tmod (IntKind.wrap IntKind.u64 (List.getD l (Int.toNat (↑s.fst : Int)) (0 : Int))) (6 : Int))), (↑s.fst : Int))).fst.op.k) (AVal.int
  IntKind.i64 s'.snd.fst.op.k) ∧ EqA (AVal.int IntKind.u64 (bagPut (c, Wk.with3 s.snd.fst (IntKind.wrap IntKind.u64 (s.snd.fst.e + Int.tmod (IntKind.wrap IntKind.u64
  (List.getD l (Int.toNat (↑s.fst : Int)) (0 : Int))) (6 : Int))), (↑s.fst : Int))).fst.op.t) (AVal.int IntKind.u64 s'.snd.fst.op.t) ∧ EqA (AVal.int IntKind.u64 (bagPut (c,
  Wk.with3 s.snd.fst (IntKind.wrap IntKind.u64 (s.snd.fst.e + Int.tmod (IntKind.wrap IntKind.u64 (List.getD l (Int.toNat (↑s.fst : Int)) (0 : Int))) (6 : Int))), (↑s.fst :
  Int))).fst.op.x) (AVal.int IntKind.u64 s'.snd.fst.op.x) ∧ EqA (AVal.int IntKind.i64 (bagPut (c, Wk.with3 s.snd.fst (IntKind.wrap IntKind.u64 (s.snd.fst.e + Int.tmod
  (IntKind.wrap IntKind.u64 (List.getD l (Int.toNat (↑s.fst : Int)) (0 : Int))) (6 : Int))), (↑s.fst : Int))).fst.op.s) (AVal.int IntKind.i64 s'.snd.fst.op.s) ∧ EqA
  (AVal.bool (bagPut (c, Wk.with3 s.snd.fst (IntKind.wrap IntKind.u64 (s.snd.fst.e + Int.tmod (IntKind.wrap IntKind.u64 (List.getD l (Int.toNat (↑s.fst : Int)) (0 : Int)))
  (6 : Int))), (↑s.fst : Int))).fst.op.u) (AVal.bool s'.snd.fst.op.u) ∧ EqA (AVal.int IntKind.i64 (bagPut (c, Wk.with3 s.snd.fst (IntKind.wrap IntKind.u64 (s.snd.fst.e +
  Int.tmod (IntKind.wrap IntKind.u64 (List.getD l (Int.toNat (↑s.fst : Int)) (0 : Int))) (6 : Int))), (↑s.fst : Int))).fst.op.b) (AVal.int IntKind.i64 s'.snd.fst.op.b) ∧
  EqA (AVal.int IntKind.i64 (bagPut (c, Wk.with3 s.snd.fst (IntKind.wrap IntKind.u64 (s.snd.fst.e + Int.tmod (IntKind.wrap IntKind.u64 (List.getD l (Int.toNat (↑s.fst :
  Int)) (0 : Int))) (6 : Int))), (↑s.fst : Int))).fst.op.n) (AVal.int IntKind.i64 s'.snd.fst.op.n) ∧ EqA (AVal.bool (bagPut (c, Wk.with3 s.snd.fst (IntKind.wrap IntKind.u64
  (s.snd.fst.e + Int.tmod (IntKind.wrap IntKind.u64 (List.getD l (Int.toNat (↑s.fst : Int)) (0 : Int))) (6 : Int))), (↑s.fst : Int))).fst.pin) (AVal.bool s'.snd.fst.pin) ∧
  EqA (AVal.int IntKind.u64 (bagPut (c, Wk.with3 s.snd.fst (IntKind.wrap IntKind.u64 (s.snd.fst.e + Int.tmod (IntKind.wrap IntKind.u64 (List.getD l (Int.toNat (↑s.fst :
  Int)) (0 : Int))) (6 : Int))), (↑s.fst : Int))).fst.e) (AVal.int IntKind.u64 s'.snd.fst.e) ∧ EqA (AVal.list (3 : Nat) (bagPut (c, Wk.with3 s.snd.fst (IntKind.wrap
  IntKind.u64 (s.snd.fst.e + Int.tmod (IntKind.wrap IntKind.u64 (List.getD l (Int.toNat (↑s.fst : Int)) (0 : Int))) (6 : Int))), (↑s.fst : Int))).fst.rack) (AVal.list (3 :
  Nat) s'.snd.fst.rack) ∧ EqA (AVal.int IntKind.u64 (bagPut (c, Wk.with3 s.snd.fst (IntKind.wrap IntKind.u64 (s.snd.fst.e + Int.tmod (IntKind.wrap IntKind.u64 (List.getD l
  (Int.toNat (↑s.fst : Int)) (0 : Int))) (6 : Int))), (↑s.fst : Int))).fst.t0) (AVal.int IntKind.u64 s'.snd.fst.t0) ∧ EqA (AVal.list (3 : Nat) (bagPut (c, Wk.with3
  s.snd.fst (IntKind.wrap IntKind.u64 (s.snd.fst.e + Int.tmod (IntKind.wrap IntKind.u64 (List.getD l (Int.toNat (↑s.fst : Int)) (0 : Int))) (6 : Int))), (↑s.fst :
  Int))).fst.l0) (AVal.list (3 : Nat) s'.snd.fst.l0) ∧ EqA (AVal.int IntKind.u64 (bagPut (c, Wk.with3 s.snd.fst (IntKind.wrap IntKind.u64 (s.snd.fst.e + Int.tmod
  (IntKind.wrap IntKind.u64 (List.getD l (Int.toNat (↑s.fst : Int)) (0 : Int))) (6 : Int))), (↑s.fst : Int))).fst.t1) (AVal.int IntKind.u64 s'.snd.fst.t1) ∧ EqA (AVal.list
  (3 : Nat) (bagPut (c, Wk.with3 s.snd.fst (IntKind.wrap IntKind.u64 (s.snd.fst.e + Int.tmod (IntKind.wrap IntKind.u64 (List.getD l (Int.toNat (↑s.fst : Int)) (0 : Int)))
  (6 : Int))), (↑s.fst : Int))).fst.l1) (AVal.list (3 : Nat) s'.snd.fst.l1) ∧ EqA (AVal.int IntKind.u64 (bagPut (c, Wk.with3 s.snd.fst (IntKind.wrap IntKind.u64
  (s.snd.fst.e + Int.tmod (IntKind.wrap IntKind.u64 (List.getD l (Int.toNat (↑s.fst : Int)) (0 : Int))) (6 : Int))), (↑s.fst : Int))).fst.t2) (AVal.int IntKind.u64
  s'.snd.fst.t2) ∧ EqA (AVal.list (3 : Nat) (bagPut (c, Wk.with3 s.snd.fst (IntKind.wrap IntKind.u64 (s.snd.fst.e + Int.tmod (IntKind.wrap IntKind.u64 (List.getD l
  (Int.toNat (↑s.fst : Int)) (0 : Int))) (6 : Int))), (↑s.fst : Int))).fst.l2) (AVal.list (3 : Nat) s'.snd.fst.l2) ∧ EqA (AVal.list (3 : Nat) (bagPut (c, Wk.with3 s.snd.fst
  (IntKind.wrap IntKind.u64 (s.snd.fst.e + Int.tmod (IntKind.wrap IntKind.u64 (List.getD l (Int.toNat (↑s.fst : Int)) (0 : Int))) (6 : Int))), (↑s.fst : Int))).fst.hold)
  (AVal.list (3 : Nat) s'.snd.fst.hold) ∧ EqA (AVal.int IntKind.i64 (bagPut (c, Wk.with3 s.snd.fst (IntKind.wrap IntKind.u64 (s.snd.fst.e + Int.tmod (IntKind.wrap
  IntKind.u64 (List.getD l (Int.toNat (↑s.fst : Int)) (0 : Int))) (6 : Int))), (↑s.fst : Int))).fst.b) (AVal.int IntKind.i64 s'.snd.fst.b) ∧ EqA (AVal.int IntKind.i64
  (bagPut (c, Wk.with3 s.snd.fst (IntKind.wrap IntKind.u64 (s.snd.fst.e + Int.tmod (IntKind.wrap IntKind.u64 (List.getD l (Int.toNat (↑s.fst : Int)) (0 : Int))) (6 :
  Int))), (↑s.fst : Int))).fst.k) (AVal.int IntKind.i64 s'.snd.fst.k) ∧ EqA (AVal.int IntKind.i64 (bagPut (c, Wk.with3 s.snd.fst (IntKind.wrap IntKind.u64 (s.snd.fst.e +
  Int.tmod (IntKind.wrap IntKind.u64 (List.getD l (Int.toNat (↑s.fst : Int)) (0 : Int))) (6 : Int))), (↑s.fst : Int))).fst.i) (AVal.int IntKind.i64 s'.snd.fst.i) ∧ EqA
  (AVal.int IntKind.i64 (bagPut (c, Wk.with3 s.snd.fst (IntKind.wrap IntKind.u64 (s.snd.fst.e + Int.tmod (IntKind.wrap IntKind.u64 (List.getD l (Int.toNat (↑s.fst : Int))
  (0 : Int))) (6 : Int))), (↑s.fst : Int))).fst.c) (AVal.int IntKind.i64 s'.snd.fst.c) ∧ EqA (AVal.int IntKind.i64 (bagPut (c, Wk.with3 s.snd.fst (IntKind.wrap IntKind.u64
  (s.snd.fst.e + Int.tmod (IntKind.wrap IntKind.u64 (List.getD l (Int.toNat (↑s.fst : Int)) (0 : Int))) (6 : Int))), (↑s.fst : Int))).fst.bor) (AVal.int IntKind.i64
  s'.snd.fst.bor) ∧ EqA (AVal.int IntKind.u64 (bagPut (c, Wk.with3 s.snd.fst (IntKind.wrap IntKind.u64 (s.snd.fst.e + Int.tmod (IntKind.wrap IntKind.u64 (List.getD l
  (Int.toNat (↑s.fst : Int)) (0 : Int))) (6 : Int))), (↑s.fst : Int))).fst.h) (AVal.int IntKind.u64 s'.snd.fst.h) ∧ EqA (AVal.int IntKind.u64 (bagPut (c, Wk.with3 s.snd.fst
  (IntKind.wrap IntKind.u64 (s.snd.fst.e + Int.tmod (IntKind.wrap IntKind.u64 (List.getD l (Int.toNat (↑s.fst : Int)) (0 : Int))) (6 : Int))), (↑s.fst : Int))).fst.n)
  (AVal.int IntKind.u64 s'.snd.fst.n) ∧ EqA (AVal.int IntKind.u64 (bagPut (c, Wk.with3 s.snd.fst (IntKind.wrap IntKind.u64 (s.snd.fst.e + Int.tmod (IntKind.wrap IntKind.u64
  (List.getD l (Int.toNat (↑s.fst : Int)) (0 : Int))) (6 : Int))), (↑s.fst : Int))).fst.v) (AVal.int IntKind.u64 s'.snd.fst.v) ∧ EqA (AVal.int IntKind.u64 (bagPut (c,
  Wk.with3 s.snd.fst (IntKind.wrap IntKind.u64 (s.snd.fst.e + Int.tmod (IntKind.wrap IntKind.u64 (List.getD l (Int.toNat (↑s.fst : Int)) (0 : Int))) (6 : Int))), (↑s.fst :
  Int))).fst.u) (AVal.int IntKind.u64 s'.snd.fst.u) ∧ EqA (AVal.int IntKind.u64 (bagPut (c, Wk.with3 s.snd.fst (IntKind.wrap IntKind.u64 (s.snd.fst.e + Int.tmod
  (IntKind.wrap IntKind.u64 (List.getD l (Int.toNat (↑s.fst : Int)) (0 : Int))) (6 : Int))), (↑s.fst : Int))).fst.g) (AVal.int IntKind.u64 s'.snd.fst.g) ∧ EqA (AVal.int
  IntKind.i64 (bagPut (c, Wk.with3 s.snd.fst (IntKind.wrap IntKind.u64 (s.snd.fst.e + Int.tmod (IntKind.wrap IntKind.u64 (List.getD l (Int.toNat (↑s.fst : Int)) (0 : Int)))
  (6 : Int))), (↑s.fst : Int))).fst.j) (AVal.int IntKind.i64 s'.snd.fst.j) ∧ EqA (AVal.list (22 : Nat) (bagPut (c, Wk.with3 s.snd.fst (IntKind.wrap IntKind.u64 (s.snd.fst.e
  + Int.tmod (IntKind.wrap IntKind.u64 (List.getD l (Int.toNat (↑s.fst : Int)) (0 : Int))) (6 : Int))), (↑s.fst : Int))).fst.read) (AVal.list (22 : Nat) s'.snd.fst.read) ∧
  EqA (AVal.int IntKind.u64 (bagPut (c, Wk.with3 s.snd.fst (IntKind.wrap IntKind.u64 (s.snd.fst.e + Int.tmod (IntKind.wrap IntKind.u64 (List.getD l (Int.toNat (↑s.fst :
  Int)) (0 : Int))) (6 : Int))), (↑s.fst : Int))).fst.t) (AVal.int IntKind.u64 s'.snd.fst.t) ∧ EqA (AVal.int IntKind.i64 (bagPut (c, Wk.with3 s.snd.fst (IntKind.wrap
  IntKind.u64 (s.snd.fst.e + Int.tmod (IntKind.wrap IntKind.u64 (List.getD l (Int.toNat (↑s.fst : Int)) (0 : Int))) (6 : Int))), (↑s.fst : Int))).fst.ret) (AVal.int
  IntKind.i64 s'.snd.fst.ret) ∧ EqA (AVal.bool (bagPut (c, Wk.with3 s.snd.fst (IntKind.wrap IntKind.u64 (s.snd.fst.e + Int.tmod (IntKind.wrap IntKind.u64 (List.getD l
  (Int.toNat (↑s.fst : Int)) (0 : Int))) (6 : Int))), (↑s.fst : Int))).fst.give) (AVal.bool s'.snd.fst.give) ∧ True) ∧ EqR (Res.vec (22 : Nat) (List.set s.snd.snd
  (Int.toNat (↑s.fst : Int)) (0 : Int))) (Res.vec (22 : Nat) s'.snd.snd) ∧ True) ∧ True))) (K (AVal.bool false))) (((0 : Int) ≤ (↑s.fst : Int) ∧ (↑s.fst : Int) <
  (↑(List.length s.snd.snd) : Int)) ∧ Int.toNat (↑s.fst : Int) < List.length s.snd.snd ∧ cnd (decide ((↑(List.length (bagPut (c, Wk.with3 s.snd.fst (IntKind.wrap
  IntKind.u64 (s.snd.fst.e + Int.tmod (IntKind.wrap IntKind.u64 (List.getD l (Int.toNat (↑s.fst : Int)) (0 : Int))) (6 : Int))), (↑s.fst : Int))).fst.hold) : Int) <
  (↑(List.length s.snd.fst.hold) : Int)) == false) (cnd (decide ((↑(List.length (bagPut (c, Wk.with3 s.snd.fst (IntKind.wrap IntKind.u64 (s.snd.fst.e + Int.tmod
  (IntKind.wrap IntKind.u64 (List.getD l (Int.toNat (↑s.fst : Int)) (0 : Int))) (6 : Int))), (↑s.fst : Int))).fst.hold) : Int) > (↑(List.length l) : Int))) (K (AVal.bool
  false)) ((∃ (s0 : Nat), s0 ≤ List.length (bagPut (c, Wk.with3 s.snd.fst (IntKind.wrap IntKind.u64 (s.snd.fst.e + Int.tmod (IntKind.wrap IntKind.u64 (List.getD l
  (Int.toNat (↑s.fst : Int)) (0 : Int))) (6 : Int))), (↑s.fst : Int))).fst.hold ∧ (EqA (AVal.int IntKind.i64 (↑(List.length s.snd.fst.hold) : Int)) (AVal.int IntKind.i64
  (↑s0 : Int)) ∧ True) ∧ (EqR (Res.cells (38 : Nat) [AVal.int IntKind.i64 c.w, AVal.int IntKind.i64 c.s, AVal.int IntKind.i64 c.b, AVal.int IntKind.i64 c.o, AVal.int
  IntKind.i64 c.e, AVal.int IntKind.i64 c.r, AVal.int IntKind.i64 c.a, AVal.int IntKind.u64 c.l]) (Res.cells (38 : Nat) [AVal.int IntKind.i64 c.w, AVal.int IntKind.i64 c.s,
  AVal.int IntKind.i64 c.b, AVal.int IntKind.i64 c.o, AVal.int IntKind.i64 c.e, AVal.int IntKind.i64 c.r, AVal.int IntKind.i64 c.a, AVal.int IntKind.u64 c.l]) ∧ (True ∧
  True ∧ True ∧ True ∧ True ∧ True ∧ True ∧ True ∧ True ∧ True ∧ EqA (AVal.int IntKind.u64 (IntKind.wrap IntKind.u64 (s.snd.fst.e + Int.tmod (IntKind.wrap IntKind.u64
  (List.getD l (Int.toNat (↑s.fst : Int)) (0 : Int))) (6 : Int)))) (AVal.int IntKind.u64 (IntKind.wrap IntKind.u64 (s.snd.fst.e + Int.tmod (IntKind.wrap IntKind.u64
  (List.getD l (Int.toNat (↑s.fst : Int)) (0 : Int))) (6 : Int)))) ∧ True ∧ True ∧ True ∧ True ∧ True ∧ True ∧ True ∧ True ∧ True ∧ True ∧ True ∧ True ∧ True ∧ True ∧ True
  ∧ True ∧ True ∧ True ∧ True ∧ True ∧ True ∧ True ∧ True ∧ True) ∧ EqR (Res.vec (22 : Nat) (List.set s.snd.snd (Int.toNat (↑s.fst : Int)) (IntKind.wrap IntKind.u64
  (IntKind.wrap IntKind.u64 (s.snd.fst.e + Int.tmod (IntKind.wrap IntKind.u64 (List.getD l (Int.toNat (↑s.fst : Int)) (0 : Int))) (6 : Int)) + (1 : Int))))) (Res.vec (22 :
  Nat) (List.set s.snd.snd (Int.toNat (↑s.fst : Int)) (IntKind.wrap IntKind.u64 (IntKind.wrap IntKind.u64 (s.snd.fst.e + Int.tmod (IntKind.wrap IntKind.u64 (List.getD l
  (Int.toNat (↑s.fst : Int)) (0 : Int))) (6 : Int)) + (1 : Int))))) ∧ (True ∧ EqA (AVal.int IntKind.i64 (bagPut (c, Wk.with3 s.snd.fst (IntKind.wrap IntKind.u64
  (s.snd.fst.e + Int.tmod (IntKind.wrap IntKind.u64 (List.getD l (Int.toNat (↑s.fst : Int)) (0 : Int))) (6 : Int))), (↑s.fst : Int))).fst.line) (AVal.int IntKind.i64
  (bagPut (c, Wk.with3 s.snd.fst (IntKind.wrap IntKind.u64 (s.snd.fst.e + Int.tmod (IntKind.wrap IntKind.u64 (List.getD l (Int.toNat (↑s.fst : Int)) (0 : Int))) (6 :
  Int))), (↑s.fst : Int))).fst.line) ∧ EqA (AVal.int IntKind.i64 (bagPut (c, Wk.with3 s.snd.fst (IntKind.wrap IntKind.u64 (s.snd.fst.e + Int.tmod (IntKind.wrap IntKind.u64
  (List.getD l (Int.toNat (↑s.fst : Int)) (0 : Int))) (6 : Int))), (↑s.fst : Int))).fst.op.k) (AVal.int IntKind.i64 (bagPut (c, Wk.with3 s.snd.fst (IntKind.wrap IntKind.u64
  (s.snd.fst.e + Int.tmod (IntKind.wrap IntKind.u64 (List.getD l (Int.toNat (↑s.fst : Int)) (0 : Int))) (6 : Int))), (↑s.fst : Int))).fst.op.k) ∧ EqA (AVal.int IntKind.u64
  (bagPut (c, Wk.with3 s.snd.fst (IntKind.wrap IntKind.u64 (s.snd.fst.e + Int.tmod (IntKind.wrap IntKind.u64 (List.getD l (Int.toNat (↑s.fst : Int)) (0 : Int))) (6 :
  Int))), (↑s.fst : Int))).fst.op.t) (AVal.int IntKind.u64 (bagPut (c, Wk.with3 s.snd.fst (IntKind.wrap IntKind.u64 (s.snd.fst.e + Int.tmod (IntKind.wrap IntKind.u64
  (List.getD l (Int.toNat (↑s.fst : Int)) (0 : Int))) (6 : Int))), (↑s.fst : Int))).fst.op.t) ∧ EqA (AVal.int IntKind.u64 (bagPut (c, Wk.with3 s.snd.fst (IntKind.wrap
  IntKind.u64 (s.snd.fst.e + Int.tmod (IntKind.wrap IntKind.u64 (List.getD l (Int.toNat (↑s.fst : Int)) (0 : Int))) (6 : Int))), (↑s.fst : Int))).fst.op.x) (AVal.int
  IntKind.u64 (bagPut (c, Wk.with3 s.snd.fst (IntKind.wrap IntKind.u64 (s.snd.fst.e + Int.tmod (IntKind.wrap IntKind.u64 (List.getD l (Int.toNat (↑s.fst : Int)) (0 : Int)))
  (6 : Int))), (↑s.fst : Int))).fst.op.x) ∧ EqA (AVal.int IntKind.i64 (bagPut (c, Wk.with3 s.snd.fst (IntKind.wrap IntKind.u64 (s.snd.fst.e + Int.tmod (IntKind.wrap
  IntKind.u64 (List.getD l (Int.toNat (↑s.fst : Int)) (0 : Int))) (6 : Int))), (↑s.fst : Int))).fst.op.s) (AVal.int IntKind.i64 (bagPut (c, Wk.with3 s.snd.fst (IntKind.wrap
  IntKind.u64 (s.snd.fst.e + Int.tmod (IntKind.wrap IntKind.u64 (List.getD l (Int.toNat (↑s.fst : Int)) (0 : Int))) (6 : Int))), (↑s.fst : Int))).fst.op.s) ∧ EqA (AVal.bool
  (bagPut (c, Wk.with3 s.snd.fst (IntKind.wrap IntKind.u64 (s.snd.fst.e + Int.tmod (IntKind.wrap IntKind.u64 (List.getD l (Int.toNat (↑s.fst : Int)) (0 : Int))) (6 :
  Int))), (↑s.fst : Int))).fst.op.u) (AVal.bool (bagPut (c, Wk.with3 s.snd.fst (IntKind.wrap IntKind.u64 (s.snd.fst.e + Int.tmod (IntKind.wrap IntKind.u64 (List.getD l
  (Int.toNat (↑s.fst : Int)) (0 : Int))) (6 : Int))), (↑s.fst : Int))).fst.op.u) ∧ EqA (AVal.int IntKind.i64 (bagPut (c, Wk.with3 s.snd.fst (IntKind.wrap IntKind.u64
  (s.snd.fst.e + Int.tmod (IntKind.wrap IntKind.u64 (List.getD l (Int.toNat (↑s.fst : Int)) (0 : Int))) (6 : Int))), (↑s.fst : Int))).fst.op.b) (AVal.int IntKind.i64
  (bagPut (c, Wk.with3 s.snd.fst (IntKind.wrap IntKind.u64 (s.snd.fst.e + Int.tmod (IntKind.wrap IntKind.u64 (List.getD l (Int.toNat (↑s.fst : Int)) (0 : Int))) (6 :
  Int))), (↑s.fst : Int))).fst.op.b) ∧ EqA (AVal.int IntKind.i64 (bagPut (c, Wk.with3 s.snd.fst (IntKind.wrap IntKind.u64 (s.snd.fst.e + Int.tmod (IntKind.wrap IntKind.u64
  (List.getD l (Int.toNat (↑s.fst : Int)) (0 : Int))) (6 : Int))), (↑s.fst : Int))).fst.op.n) (AVal.int IntKind.i64 (bagPut (c, Wk.with3 s.snd.fst (IntKind.wrap IntKind.u64
  (s.snd.fst.e + Int.tmod (IntKind.wrap IntKind.u64 (List.getD l (Int.toNat (↑s.fst : Int)) (0 : Int))) (6 : Int))), (↑s.fst : Int))).fst.op.n) ∧ EqA (AVal.bool (bagPut (c,
  Wk.with3 s.snd.fst (IntKind.wrap IntKind.u64 (s.snd.fst.e + Int.tmod (IntKind.wrap IntKind.u64 (List.getD l (Int.toNat (↑s.fst : Int)) (0 : Int))) (6 : Int))), (↑s.fst :
  Int))).fst.pin) (AVal.bool (bagPut (c, Wk.with3 s.snd.fst (IntKind.wrap IntKind.u64 (s.snd.fst.e + Int.tmod (IntKind.wrap IntKind.u64 (List.getD l (Int.toNat (↑s.fst :
  Int)) (0 : Int))) (6 : Int))), (↑s.fst : Int))).fst.pin) ∧ EqA (AVal.int IntKind.u64 (bagPut (c, Wk.with3 s.snd.fst (IntKind.wrap IntKind.u64 (s.snd.fst.e + Int.tmod
  (IntKind.wrap IntKind.u64 (List.getD l (Int.toNat (↑s.fst : Int)) (0 : Int))) (6 : Int))), (↑s.fst : Int))).fst.e) (AVal.int IntKind.u64 (bagPut (c, Wk.with3 s.snd.fst
  (IntKind.wrap IntKind.u64 (s.snd.fst.e + Int.tmod (IntKind.wrap IntKind.u64 (List.getD l (Int.toNat (↑s.fst : Int)) (0 : Int))) (6 : Int))), (↑s.fst : Int))).fst.e) ∧ EqA
  (AVal.list (3 : Nat) (bagPut (c, Wk.with3 s.snd.fst (IntKind.wrap IntKind.u64 (s.snd.fst.e + Int.tmod (IntKind.wrap IntKind.u64 (List.getD l (Int.toNat (↑s.fst : Int)) (0
  : Int))) (6 : Int))), (↑s.fst : Int))).fst.rack) (AVal.list (3 : Nat) (bagPut (c, Wk.with3 s.snd.fst (IntKind.wrap IntKind.u64 (s.snd.fst.e + Int.tmod (IntKind.wrap
  IntKind.u64 (List.getD l (Int.toNat (↑s.fst : Int)) (0 : Int))) (6 : Int))), (↑s.fst : Int))).fst.rack) ∧ EqA (AVal.int IntKind.u64 (bagPut (c, Wk.with3 s.snd.fst
  (IntKind.wrap IntKind.u64 (s.snd.fst.e + Int.tmod (IntKind.wrap IntKind.u64 (List.getD l (Int.toNat (↑s.fst : Int)) (0 : Int))) (6 : Int))), (↑s.fst : Int))).fst.t0)
  (AVal.int IntKind.u64 (bagPut (c, Wk.with3 s.snd.fst (IntKind.wrap IntKind.u64 (s.snd.fst.e + Int.tmod (IntKind.wrap IntKind.u64 (List.getD l (Int.toNat (↑s.fst : Int))
  (0 : Int))) (6 : Int))), (↑s.fst : Int))).fst.t0) ∧ EqA (AVal.list (3 : Nat) (bagPut (c, Wk.with3 s.snd.fst (IntKind.wrap IntKind.u64 (s.snd.fst.e + Int.tmod
  (IntKind.wrap IntKind.u64 (List.getD l (Int.toNat (↑s.fst : Int)) (0 : Int))) (6 : Int))), (↑s.fst : Int))).fst.l0) (AVal.list (3 : Nat) (bagPut (c, Wk.with3 s.snd.fst
  (IntKind.wrap IntKind.u64 (s.snd.fst.e + Int.tmod (IntKind.wrap IntKind.u64 (List.getD l (Int.toNat (↑s.fst : Int)) (0 : Int))) (6 : Int))), (↑s.fst : Int))).fst.l0) ∧
  EqA (AVal.int IntKind.u64 (bagPut (c, Wk.with3 s.snd.fst (IntKind.wrap IntKind.u64 (s.snd.fst.e + Int.tmod (IntKind.wrap IntKind.u64 (List.getD l (Int.toNat (↑s.fst :
  Int)) (0 : Int))) (6 : Int))), (↑s.fst : Int))).fst.t1) (AVal.int IntKind.u64 (bagPut (c, Wk.with3 s.snd.fst (IntKind.wrap IntKind.u64 (s.snd.fst.e + Int.tmod
  (IntKind.wrap IntKind.u64 (List.getD l (Int.toNat (↑s.fst : Int)) (0 : Int))) (6 : Int))), (↑s.fst : Int))).fst.t1) ∧ EqA (AVal.list (3 : Nat) (bagPut (c, Wk.with3
  s.snd.fst (IntKind.wrap IntKind.u64 (s.snd.fst.e + Int.tmod (IntKind.wrap IntKind.u64 (List.getD l (Int.toNat (↑s.fst : Int)) (0 : Int))) (6 : Int))), (↑s.fst :
  Int))).fst.l1) (AVal.list (3 : Nat) (bagPut (c, Wk.with3 s.snd.fst (IntKind.wrap IntKind.u64 (s.snd.fst.e + Int.tmod (IntKind.wrap IntKind.u64 (List.getD l (Int.toNat
  (↑s.fst : Int)) (0 : Int))) (6 : Int))), (↑s.fst : Int))).fst.l1) ∧ EqA (AVal.int IntKind.u64 (bagPut (c, Wk.with3 s.snd.fst (IntKind.wrap IntKind.u64 (s.snd.fst.e +
  Int.tmod (IntKind.wrap IntKind.u64 (List.getD l (Int.toNat (↑s.fst : Int)) (0 : Int))) (6 : Int))), (↑s.fst : Int))).fst.t2) (AVal.int IntKind.u64 (bagPut (c, Wk.with3
  s.snd.fst (IntKind.wrap IntKind.u64 (s.snd.fst.e + Int.tmod (IntKind.wrap IntKind.u64 (List.getD l (Int.toNat (↑s.fst : Int)) (0 : Int))) (6 : Int))), (↑s.fst :
  Int))).fst.t2) ∧ EqA (AVal.list (3 : Nat) (bagPut (c, Wk.with3 s.snd.fst (IntKind.wrap IntKind.u64 (s.snd.fst.e + Int.tmod (IntKind.wrap IntKind.u64 (List.getD l
  (Int.toNat (↑s.fst : Int)) (0 : Int))) (6 : Int))), (↑s.fst : Int))).fst.l2) (AVal.list (3 : Nat) (bagPut (c, Wk.with3 s.snd.fst (IntKind.wrap IntKind.u64 (s.snd.fst.e +
  Int.tmod (IntKind.wrap IntKind.u64 (List.getD l (Int.toNat (↑s.fst : Int)) (0 : Int))) (6 : Int))), (↑s.fst : Int))).fst.l2) ∧ EqA (AVal.list (3 : Nat) (bagPut (c,
  Wk.with3 s.snd.fst (IntKind.wrap IntKind.u64 (s.snd.fst.e + Int.tmod (IntKind.wrap IntKind.u64 (List.getD l (Int.toNat (↑s.fst : Int)) (0 : Int))) (6 : Int))), (↑s.fst :
  Int))).fst.hold) (AVal.list (3 : Nat) (bagPut (c, Wk.with3 s.snd.fst (IntKind.wrap IntKind.u64 (s.snd.fst.e + Int.tmod (IntKind.wrap IntKind.u64 (List.getD l (Int.toNat
  (↑s.fst : Int)) (0 : Int))) (6 : Int))), (↑s.fst : Int))).fst.hold) ∧ EqA (AVal.int IntKind.i64 (bagPut (c, Wk.with3 s.snd.fst (IntKind.wrap IntKind.u64 (s.snd.fst.e +
  Int.tmod (IntKind.wrap IntKind.u64 (List.getD l (Int.toNat (↑s.fst : Int)) (0 : Int))) (6 : Int))), (↑s.fst : Int))).fst.b) (AVal.int IntKind.i64 (bagPut (c, Wk.with3
  s.snd.fst (IntKind.wrap IntKind.u64 (s.snd.fst.e + Int.tmod (IntKind.wrap IntKind.u64 (List.getD l (Int.toNat (↑s.fst : Int)) (0 : Int))) (6 : Int))), (↑s.fst :
  Int))).fst.b) ∧ EqA (AVal.int IntKind.i64 (bagPut (c, Wk.with3 s.snd.fst (IntKind.wrap IntKind.u64 (s.snd.fst.e + Int.tmod (IntKind.wrap IntKind.u64 (List.getD l
  (Int.toNat (↑s.fst : Int)) (0 : Int))) (6 : Int))), (↑s.fst : Int))).fst.k) (AVal.int IntKind.i64 (bagPut (c, Wk.with3 s.snd.fst (IntKind.wrap IntKind.u64 (s.snd.fst.e +
  Int.tmod (IntKind.wrap IntKind.u64 (List.getD l (Int.toNat (↑s.fst : Int)) (0 : Int))) (6 : Int))), (↑s.fst : Int))).fst.k) ∧ EqA (AVal.int IntKind.i64 (bagPut (c,
  Wk.with3 s.snd.fst (IntKind.wrap IntKind.u64 (s.snd.fst.e + Int.tmod (IntKind.wrap IntKind.u64 (List.getD l (Int.toNat (↑s.fst : Int)) (0 : Int))) (6 : Int))), (↑s.fst :
  Int))).fst.i) (AVal.int IntKind.i64 (bagPut (c, Wk.with3 s.snd.fst (IntKind.wrap IntKind.u64 (s.snd.fst.e + Int.tmod (IntKind.wrap IntKind.u64 (List.getD l (Int.toNat
  (↑s.fst : Int)) (0 : Int))) (6 : Int))), (↑s.fst : Int))).fst.i) ∧ EqA (AVal.int IntKind.i64 (bagPut (c, Wk.with3 s.snd.fst (IntKind.wrap IntKind.u64 (s.snd.fst.e +
  Int.tmod (IntKind.wrap IntKind.u64 (List.getD l (Int.toNat (↑s.fst : Int)) (0 : Int))) (6 : Int))), (↑s.fst : Int))).fst.c) (AVal.int IntKind.i64 (bagPut (c, Wk.with3
  s.snd.fst (IntKind.wrap IntKind.u64 (s.snd.fst.e + Int.tmod (IntKind.wrap IntKind.u64 (List.getD l (Int.toNat (↑s.fst : Int)) (0 : Int))) (6 : Int))), (↑s.fst :
  Int))).fst.c) ∧ EqA (AVal.int IntKind.i64 (bagPut (c, Wk.with3 s.snd.fst (IntKind.wrap IntKind.u64 (s.snd.fst.e + Int.tmod (IntKind.wrap IntKind.u64 (List.getD l
  (Int.toNat (↑s.fst : Int)) (0 : Int))) (6 : Int))), (↑s.fst : Int))).fst.bor) (AVal.int IntKind.i64 (bagPut (c, Wk.with3 s.snd.fst (IntKind.wrap IntKind.u64 (s.snd.fst.e
  + Int.tmod (IntKind.wrap IntKind.u64 (List.getD l (Int.toNat (↑s.fst : Int)) (0 : Int))) (6 : Int))), (↑s.fst : Int))).fst.bor) ∧ EqA (AVal.int IntKind.u64 (bagPut (c,
  Wk.with3 s.snd.fst (IntKind.wrap IntKind.u64 (s.snd.fst.e + Int.tmod (IntKind.wrap IntKind.u64 (List.getD l (Int.toNat (↑s.fst : Int)) (0 : Int))) (6 : Int))), (↑s.fst :
  Int))).fst.h) (AVal.int IntKind.u64 (bagPut (c, Wk.with3 s.snd.fst (IntKind.wrap IntKind.u64 (s.snd.fst.e + Int.tmod (IntKind.wrap IntKind.u64 (List.getD l (Int.toNat
  (↑s.fst : Int)) (0 : Int))) (6 : Int))), (↑s.fst : Int))).fst.h) ∧ EqA (AVal.int IntKind.u64 (bagPut (c, Wk.with3 s.snd.fst (IntKind.wrap IntKind.u64 (s.snd.fst.e +
  Int.tmod (IntKind.wrap IntKind.u64 (List.getD l (Int.toNat (↑s.fst : Int)) (0 : Int))) (6 : Int))), (↑s.fst : Int))).fst.n) (AVal.int IntKind.u64 (bagPut (c, Wk.with3
  s.snd.fst (IntKind.wrap IntKind.u64 (s.snd.fst.e + Int.tmod (IntKind.wrap IntKind.u64 (List.getD l (Int.toNat (↑s.fst : Int)) (0 : Int))) (6 : Int))), (↑s.fst :
  Int))).fst.n) ∧ EqA (AVal.int IntKind.u64 (bagPut (c, Wk.with3 s.snd.fst (IntKind.wrap IntKind.u64 (s.snd.fst.e + Int.tmod (IntKind.wrap IntKind.u64 (List.getD l
  (Int.toNat (↑s.fst : Int)) (0 : Int))) (6 : Int))), (↑s.fst : Int))).fst.v) (AVal.int IntKind.u64 (bagPut (c, Wk.with3 s.snd.fst (IntKind.wrap IntKind.u64 (s.snd.fst.e +
  Int.tmod (IntKind.wrap IntKind.u64 (List.getD l (Int.toNat (↑s.fst : Int)) (0 : Int))) (6 : Int))), (↑s.fst : Int))).fst.v) ∧ EqA (AVal.int IntKind.u64 (bagPut (c,
  Wk.with3 s.snd.fst (IntKind.wrap IntKind.u64 (s.snd.fst.e + Int.tmod (IntKind.wrap IntKind.u64 (List.getD l (Int.toNat (↑s.fst : Int)) (0 : Int))) (6 : Int))), (↑s.fst :
  Int))).fst.u) (AVal.int IntKind.u64 (bagPut (c, Wk.with3 s.snd.fst (IntKind.wrap IntKind.u64 (s.snd.fst.e + Int.tmod (IntKind.wrap IntKind.u64 (List.getD l (Int.toNat
  (↑s.fst : Int)) (0 : Int))) (6 : Int))), (↑s.fst : Int))).fst.u) ∧ EqA (AVal.int IntKind.u64 (bagPut (c, Wk.with3 s.snd.fst (IntKind.wrap IntKind.u64 (s.snd.fst.e +
  Int.tmod (IntKind.wrap IntKind.u64 (List.getD l (Int.toNat (↑s.fst : Int)) (0 : Int))) (6 : Int))), (↑s.fst : Int))).fst.g) (AVal.int IntKind.u64 (bagPut (c, Wk.with3
  s.snd.fst (IntKind.wrap IntKind.u64 (s.snd.fst.e + Int.tmod (IntKind.wrap IntKind.u64 (List.getD l (Int.toNat (↑s.fst : Int)) (0 : Int))) (6 : Int))), (↑s.fst :
  Int))).fst.g) ∧ EqA (AVal.int IntKind.i64 (bagPut (c, Wk.with3 s.snd.fst (IntKind.wrap IntKind.u64 (s.snd.fst.e + Int.tmod (IntKind.wrap IntKind.u64 (List.getD l
  (Int.toNat (↑s.fst : Int)) (0 : Int))) (6 : Int))), (↑s.fst : Int))).fst.j) (AVal.int IntKind.i64 (bagPut (c, Wk.with3 s.snd.fst (IntKind.wrap IntKind.u64 (s.snd.fst.e +
  Int.tmod (IntKind.wrap IntKind.u64 (List.getD l (Int.toNat (↑s.fst : Int)) (0 : Int))) (6 : Int))), (↑s.fst : Int))).fst.j) ∧ EqA (AVal.list (22 : Nat) (bagPut (c,
  Wk.with3 s.snd.fst (IntKind.wrap IntKind.u64 (s.snd.fst.e + Int.tmod (IntKind.wrap IntKind.u64 (List.getD l (Int.toNat (↑s.fst : Int)) (0 : Int))) (6 : Int))), (↑s.fst :
  Int))).fst.read) (AVal.list (22 : Nat) (bagPut (c, Wk.with3 s.snd.fst (IntKind.wrap IntKind.u64 (s.snd.fst.e + Int.tmod (IntKind.wrap IntKind.u64 (List.getD l (Int.toNat
  (↑s.fst : Int)) (0 : Int))) (6 : Int))), (↑s.fst : Int))).fst.read) ∧ EqA (AVal.int IntKind.u64 (bagPut (c, Wk.with3 s.snd.fst (IntKind.wrap IntKind.u64 (s.snd.fst.e +
  Int.tmod (IntKind.wrap IntKind.u64 (List.getD l (Int.toNat (↑s.fst : Int)) (0 : Int))) (6 : Int))), (↑s.fst : Int))).fst.t) (AVal.int IntKind.u64 (bagPut (c, Wk.with3
  s.snd.fst (IntKind.wrap IntKind.u64 (s.snd.fst.e + Int.tmod (IntKind.wrap IntKind.u64 (List.getD l (Int.toNat (↑s.fst : Int)) (0 : Int))) (6 : Int))), (↑s.fst :
  Int))).fst.t) ∧ EqA (AVal.int IntKind.i64 (bagPut (c, Wk.with3 s.snd.fst (IntKind.wrap IntKind.u64 (s.snd.fst.e + Int.tmod (IntKind.wrap IntKind.u64 (List.getD l
  (Int.toNat (↑s.fst : Int)) (0 : Int))) (6 : Int))), (↑s.fst : Int))).fst.ret) (AVal.int IntKind.i64 (bagPut (c, Wk.with3 s.snd.fst (IntKind.wrap IntKind.u64 (s.snd.fst.e
  + Int.tmod (IntKind.wrap IntKind.u64 (List.getD l (Int.toNat (↑s.fst : Int)) (0 : Int))) (6 : Int))), (↑s.fst : Int))).fst.ret) ∧ EqA (AVal.bool (bagPut (c, Wk.with3
  s.snd.fst (IntKind.wrap IntKind.u64 (s.snd.fst.e + Int.tmod (IntKind.wrap IntKind.u64 (List.getD l (Int.toNat (↑s.fst : Int)) (0 : Int))) (6 : Int))), (↑s.fst :
  Int))).fst.give) (AVal.bool (bagPut (c, Wk.with3 s.snd.fst (IntKind.wrap IntKind.u64 (s.snd.fst.e + Int.tmod (IntKind.wrap IntKind.u64 (List.getD l (Int.toNat (↑s.fst :
  Int)) (0 : Int))) (6 : Int))), (↑s.fst : Int))).fst.give) ∧ True) ∧ True) ∧ True) ∧ ∀ (s_1 : Nat), s_1 ≤ List.length (bagPut (c, Wk.with3 s.snd.fst (IntKind.wrap
  IntKind.u64 (s.snd.fst.e + Int.tmod (IntKind.wrap IntKind.u64 (List.getD l (Int.toNat (↑s.fst : Int)) (0 : Int))) (6 : Int))), (↑s.fst : Int))).fst.hold → cnd (decide
  ((↑s_1 : Int) < (↑(List.length (bagPut (c, Wk.with3 s.snd.fst (IntKind.wrap IntKind.u64 (s.snd.fst.e + Int.tmod (IntKind.wrap IntKind.u64 (List.getD l (Int.toNat (↑s.fst
  : Int)) (0 : Int))) (6 : Int))), (↑s.fst : Int))).fst.hold) : Int))) (((0 : Int) ≤ (↑s_1 : Int) ∧ (↑s_1 : Int) < (↑(List.length (bagPut (c, Wk.with3 s.snd.fst
  (IntKind.wrap IntKind.u64 (s.snd.fst.e + Int.tmod (IntKind.wrap IntKind.u64 (List.getD l (Int.toNat (↑s.fst : Int)) (0 : Int))) (6 : Int))), (↑s.fst : Int))).fst.hold) :
  Int)) ∧ cnd (decide (List.getD (bagPut (c, Wk.with3 s.snd.fst (IntKind.wrap IntKind.u64 (s.snd.fst.e + Int.tmod (IntKind.wrap IntKind.u64 (List.getD l (Int.toNat (↑s.fst
  : Int)) (0 : Int))) (6 : Int))), (↑s.fst : Int))).fst.hold (Int.toNat (↑s_1 : Int)) (0 : Int) < (0 : Int)) == false) (cnd (decide (List.getD (bagPut (c, Wk.with3
  s.snd.fst (IntKind.wrap IntKind.u64 (s.snd.fst.e + Int.tmod (IntKind.wrap IntKind.u64 (List.getD l (Int.toNat (↑s.fst : Int)) (0 : Int))) (6 : Int))), (↑s.fst :
  Int))).fst.hold (Int.toNat (↑s_1 : Int)) (0 : Int) ≥ (↑s.fst : Int)) == false) (((0 : Int) ≤ List.getD (bagPut (c, Wk.with3 s.snd.fst (IntKind.wrap IntKind.u64
  (s.snd.fst.e + Int.tmod (IntKind.wrap IntKind.u64 (List.getD l (Int.toNat (↑s.fst : Int)) (0 : Int))) (6 : Int))), (↑s.fst : Int))).fst.hold (Int.toNat (↑s_1 : Int)) (0 :
  Int) ∧ List.getD (bagPut (c, Wk.with3 s.snd.fst (IntKind.wrap IntKind.u64 (s.snd.fst.e + Int.tmod (IntKind.wrap IntKind.u64 (List.getD l (Int.toNat (↑s.fst : Int)) (0 :
  Int))) (6 : Int))), (↑s.fst : Int))).fst.hold (Int.toNat (↑s_1 : Int)) (0 : Int) < (↑(List.length (List.set s.snd.snd (Int.toNat (↑s.fst : Int)) (IntKind.wrap IntKind.u64
  (IntKind.wrap IntKind.u64 (s.snd.fst.e + Int.tmod (IntKind.wrap IntKind.u64 (List.getD l (Int.toNat (↑s.fst : Int)) (0 : Int))) (6 : Int)) + (1 : Int))))) : Int)) ∧
  Int.toNat (List.getD (bagPut (c, Wk.with3 s.snd.fst (IntKind.wrap IntKind.u64 (s.snd.fst.e + Int.tmod (IntKind.wrap IntKind.u64 (List.getD l (Int.toNat (↑s.fst : Int)) (0
  : Int))) (6 : Int))), (↑s.fst : Int))).fst.hold (Int.toNat (↑s_1 : Int)) (0 : Int)) < List.length (List.set s.snd.snd (Int.toNat (↑s.fst : Int)) (IntKind.wrap IntKind.u64
  (IntKind.wrap IntKind.u64 (s.snd.fst.e + Int.tmod (IntKind.wrap IntKind.u64 (List.getD l (Int.toNat (↑s.fst : Int)) (0 : Int))) (6 : Int)) + (1 : Int)))) ∧ cnd
  ((List.getD (List.set s.snd.snd (Int.toNat (↑s.fst : Int)) (IntKind.wrap IntKind.u64 (IntKind.wrap IntKind.u64 (s.snd.fst.e + Int.tmod (IntKind.wrap IntKind.u64
  (List.getD l (Int.toNat (↑s.fst : Int)) (0 : Int))) (6 : Int)) + (1 : Int)))) (Int.toNat (List.getD (bagPut (c, Wk.with3 s.snd.fst (IntKind.wrap IntKind.u64 (s.snd.fst.e
  + Int.tmod (IntKind.wrap IntKind.u64 (List.getD l (Int.toNat (↑s.fst : Int)) (0 : Int))) (6 : Int))), (↑s.fst : Int))).fst.hold (Int.toNat (↑s_1 : Int)) (0 : Int))) (0 :
  Int) == (0 : Int)) == false) (((0 : Int) ≤ List.getD (bagPut (c, Wk.with3 s.snd.fst (IntKind.wrap IntKind.u64 (s.snd.fst.e + Int.tmod (IntKind.wrap IntKind.u64 (List.getD
  l (Int.toNat (↑s.fst : Int)) (0 : Int))) (6 : Int))), (↑s.fst : Int))).fst.hold (Int.toNat (↑s_1 : Int)) (0 : Int) ∧ List.getD (bagPut (c, Wk.with3 s.snd.fst
  (IntKind.wrap IntKind.u64 (s.snd.fst.e + Int.tmod (IntKind.wrap IntKind.u64 (List.getD l (Int.toNat (↑s.fst : Int)) (0 : Int))) (6 : Int))), (↑s.fst : Int))).fst.hold
  (Int.toNat (↑s_1 : Int)) (0 : Int) < (↑(List.length (List.set s.snd.snd (Int.toNat (↑s.fst : Int)) (IntKind.wrap IntKind.u64 (IntKind.wrap IntKind.u64 (s.snd.fst.e +
  Int.tmod (IntKind.wrap IntKind.u64 (List.getD l (Int.toNat (↑s.fst : Int)) (0 : Int))) (6 : Int)) + (1 : Int))))) : Int)) ∧ Int.toNat (List.getD (bagPut (c, Wk.with3
  s.snd.fst (IntKind.wrap IntKind.u64 (s.snd.fst.e + Int.tmod (IntKind.wrap IntKind.u64 (List.getD l (Int.toNat (↑s.fst : Int)) (0 : Int))) (6 : Int))), (↑s.fst :
  Int))).fst.hold (Int.toNat (↑s_1 : Int)) (0 : Int)) < List.length (List.set s.snd.snd (Int.toNat (↑s.fst : Int)) (IntKind.wrap IntKind.u64 (IntKind.wrap IntKind.u64
  (s.snd.fst.e + Int.tmod (IntKind.wrap IntKind.u64 (List.getD l (Int.toNat (↑s.fst : Int)) (0 : Int))) (6 : Int)) + (1 : Int)))) ∧ cnd (decide (IntKind.wrap IntKind.u64
  (List.getD (List.set s.snd.snd (Int.toNat (↑s.fst : Int)) (IntKind.wrap IntKind.u64 (IntKind.wrap IntKind.u64 (s.snd.fst.e + Int.tmod (IntKind.wrap IntKind.u64 (List.getD
  l (Int.toNat (↑s.fst : Int)) (0 : Int))) (6 : Int)) + (1 : Int)))) (Int.toNat (List.getD (bagPut (c, Wk.with3 s.snd.fst (IntKind.wrap IntKind.u64 (s.snd.fst.e + Int.tmod
  (IntKind.wrap IntKind.u64 (List.getD l (Int.toNat (↑s.fst : Int)) (0 : Int))) (6 : Int))), (↑s.fst : Int))).fst.hold (Int.toNat (↑s_1 : Int)) (0 : Int))) (0 : Int) + (2 :
  Int)) > IntKind.wrap IntKind.u64 (s.snd.fst.e + Int.tmod (IntKind.wrap IntKind.u64 (List.getD l (Int.toNat (↑s.fst : Int)) (0 : Int))) (6 : Int)))) (K (AVal.bool false))
  (∃ (s' : Nat), s' ≤ List.length (bagPut (c, Wk.with3 s.snd.fst (IntKind.wrap IntKind.u64 (s.snd.fst.e + Int.tmod (IntKind.wrap IntKind.u64 (List.getD l (Int.toNat (↑s.fst
  : Int)) (0 : Int))) (6 : Int))), (↑s.fst : Int))).fst.hold ∧ List.length (bagPut (c, Wk.with3 s.snd.fst (IntKind.wrap IntKind.u64 (s.snd.fst.e + Int.tmod (IntKind.wrap
  IntKind.u64 (List.getD l (Int.toNat (↑s.fst : Int)) (0 : Int))) (6 : Int))), (↑s.fst : Int))).fst.hold - s' < List.length (bagPut (c, Wk.with3 s.snd.fst (IntKind.wrap
  IntKind.u64 (s.snd.fst.e + Int.tmod (IntKind.wrap IntKind.u64 (List.getD l (Int.toNat (↑s.fst : Int)) (0 : Int))) (6 : Int))), (↑s.fst : Int))).fst.hold - s_1 ∧ (EqA
  (AVal.int IntKind.i64 (IntKind.wrap IntKind.i64 ((↑s_1 : Int) + (1 : Int)))) (AVal.int IntKind.i64 (↑s' : Int)) ∧ True) ∧ (EqR (Res.cells (38 : Nat) [AVal.int IntKind.i64
  c.w, AVal.int IntKind.i64 c.s, AVal.int IntKind.i64 c.b, AVal.int IntKind.i64 c.o, AVal.int IntKind.i64 c.e, AVal.int IntKind.i64 c.r, AVal.int IntKind.i64 c.a, AVal.int
  IntKind.u64 c.l]) (Res.cells (38 : Nat) [AVal.int IntKind.i64 c.w, AVal.int IntKind.i64 c.s, AVal.int IntKind.i64 c.b, AVal.int IntKind.i64 c.o, AVal.int IntKind.i64 c.e,
  AVal.int IntKind.i64 c.r, AVal.int IntKind.i64 c.a, AVal.int IntKind.u64 c.l]) ∧ (True ∧ True ∧ True ∧ True ∧ True ∧ True ∧ True ∧ True ∧ True ∧ True ∧ EqA (AVal.int
  IntKind.u64 (IntKind.wrap IntKind.u64 (s.snd.fst.e + Int.tmod (IntKind.wrap IntKind.u64 (List.getD l (Int.toNat (↑s.fst : Int)) (0 : Int))) (6 : Int)))) (AVal.int
  IntKind.u64 (IntKind.wrap IntKind.u64 (s.snd.fst.e + Int.tmod (IntKind.wrap IntKind.u64 (List.getD l (Int.toNat (↑s.fst : Int)) (0 : Int))) (6 : Int)))) ∧ True ∧ True ∧
  True ∧ True ∧ True ∧ True ∧ True ∧ True ∧ True ∧ True ∧ True ∧ True ∧ True ∧ True ∧ True ∧ True ∧ True ∧ True ∧ True ∧ True ∧ True ∧ True ∧ True ∧ True) ∧ EqR (Res.vec
  (22 : Nat) (List.set s.snd.snd (Int.toNat (↑s.fst : Int)) (IntKind.wrap IntKind.u64 (IntKind.wrap IntKind.u64 (s.snd.fst.e + Int.tmod (IntKind.wrap IntKind.u64 (List.getD
  l (Int.toNat (↑s.fst : Int)) (0 : Int))) (6 : Int)) + (1 : Int))))) (Res.vec (22 : Nat) (List.set s.snd.snd (Int.toNat (↑s.fst : Int)) (IntKind.wrap IntKind.u64
  (IntKind.wrap IntKind.u64 (s.snd.fst.e + Int.tmod (IntKind.wrap IntKind.u64 (List.getD l (Int.toNat (↑s.fst : Int)) (0 : Int))) (6 : Int)) + (1 : Int))))) ∧ (True ∧ EqA
  (AVal.int IntKind.i64 (bagPut (c, Wk.with3 s.snd.fst (IntKind.wrap IntKind.u64 (s.snd.fst.e + Int.tmod (IntKind.wrap IntKind.u64 (List.getD l (Int.toNat (↑s.fst : Int))
  (0 : Int))) (6 : Int))), (↑s.fst : Int))).fst.line) (AVal.int IntKind.i64 (bagPut (c, Wk.with3 s.snd.fst (IntKind.wrap IntKind.u64 (s.snd.fst.e + Int.tmod (IntKind.wrap
  IntKind.u64 (List.getD l (Int.toNat (↑s.fst : Int)) (0 : Int))) (6 : Int))), (↑s.fst : Int))).fst.line) ∧ EqA (AVal.int IntKind.i64 (bagPut (c, Wk.with3 s.snd.fst
  (IntKind.wrap IntKind.u64 (s.snd.fst.e + Int.tmod (IntKind.wrap IntKind.u64 (List.getD l (Int.toNat (↑s.fst : Int)) (0 : Int))) (6 : Int))), (↑s.fst : Int))).fst.op.k)
  (AVal.int IntKind.i64 (bagPut (c, Wk.with3 s.snd.fst (IntKind.wrap IntKind.u64 (s.snd.fst.e + Int.tmod (IntKind.wrap IntKind.u64 (List.getD l (Int.toNat (↑s.fst : Int))
  (0 : Int))) (6 : Int))), (↑s.fst : Int))).fst.op.k) ∧ EqA (AVal.int IntKind.u64 (bagPut (c, Wk.with3 s.snd.fst (IntKind.wrap IntKind.u64 (s.snd.fst.e + Int.tmod
  (IntKind.wrap IntKind.u64 (List.getD l (Int.toNat (↑s.fst : Int)) (0 : Int))) (6 : Int))), (↑s.fst : Int))).fst.op.t) (AVal.int IntKind.u64 (bagPut (c, Wk.with3 s.snd.fst
  (IntKind.wrap IntKind.u64 (s.snd.fst.e + Int.tmod (IntKind.wrap IntKind.u64 (List.getD l (Int.toNat (↑s.fst : Int)) (0 : Int))) (6 : Int))), (↑s.fst : Int))).fst.op.t) ∧
  EqA (AVal.int IntKind.u64 (bagPut (c, Wk.with3 s.snd.fst (IntKind.wrap IntKind.u64 (s.snd.fst.e + Int.tmod (IntKind.wrap IntKind.u64 (List.getD l (Int.toNat (↑s.fst :
  Int)) (0 : Int))) (6 : Int))), (↑s.fst : Int))).fst.op.x) (AVal.int IntKind.u64 (bagPut (c, Wk.with3 s.snd.fst (IntKind.wrap IntKind.u64 (s.snd.fst.e + Int.tmod
  (IntKind.wrap IntKind.u64 (List.getD l (Int.toNat (↑s.fst : Int)) (0 : Int))) (6 : Int))), (↑s.fst : Int))).fst.op.x) ∧ EqA (AVal.int IntKind.i64 (bagPut (c, Wk.with3
  s.snd.fst (IntKind.wrap IntKind.u64 (s.snd.fst.e + Int.tmod (IntKind.wrap IntKind.u64 (List.getD l (Int.toNat (↑s.fst : Int)) (0 : Int))) (6 : Int))), (↑s.fst :
  Int))).fst.op.s) (AVal.int IntKind.i64 (bagPut (c, Wk.with3 s.snd.fst (IntKind.wrap IntKind.u64 (s.snd.fst.e + Int.tmod (IntKind.wrap IntKind.u64 (List.getD l (Int.toNat
  (↑s.fst : Int)) (0 : Int))) (6 : Int))), (↑s.fst : Int))).fst.op.s) ∧ EqA (AVal.bool (bagPut (c, Wk.with3 s.snd.fst (IntKind.wrap IntKind.u64 (s.snd.fst.e + Int.tmod
  (IntKind.wrap IntKind.u64 (List.getD l (Int.toNat (↑s.fst : Int)) (0 : Int))) (6 : Int))), (↑s.fst : Int))).fst.op.u) (AVal.bool (bagPut (c, Wk.with3 s.snd.fst
  (IntKind.wrap IntKind.u64 (s.snd.fst.e + Int.tmod (IntKind.wrap IntKind.u64 (List.getD l (Int.toNat (↑s.fst : Int)) (0 : Int))) (6 : Int))), (↑s.fst : Int))).fst.op.u) ∧
  EqA (AVal.int IntKind.i64 (bagPut (c, Wk.with3 s.snd.fst (IntKind.wrap IntKind.u64 (s.snd.fst.e + Int.tmod (IntKind.wrap IntKind.u64 (List.getD l (Int.toNat (↑s.fst :
  Int)) (0 : Int))) (6 : Int))), (↑s.fst : Int))).fst.op.b) (AVal.int IntKind.i64 (bagPut (c, Wk.with3 s.snd.fst (IntKind.wrap IntKind.u64 (s.snd.fst.e + Int.tmod
  (IntKind.wrap IntKind.u64 (List.getD l (Int.toNat (↑s.fst : Int)) (0 : Int))) (6 : Int))), (↑s.fst : Int))).fst.op.b) ∧ EqA (AVal.int IntKind.i64 (bagPut (c, Wk.with3
  s.snd.fst (IntKind.wrap IntKind.u64 (s.snd.fst.e + Int.tmod (IntKind.wrap IntKind.u64 (List.getD l (Int.toNat (↑s.fst : Int)) (0 : Int))) (6 : Int))), (↑s.fst :
  Int))).fst.op.n) (AVal.int IntKind.i64 (bagPut (c, Wk.with3 s.snd.fst (IntKind.wrap IntKind.u64 (s.snd.fst.e + Int.tmod (IntKind.wrap IntKind.u64 (List.getD l (Int.toNat
  (↑s.fst : Int)) (0 : Int))) (6 : Int))), (↑s.fst : Int))).fst.op.n) ∧ EqA (AVal.bool (bagPut (c, Wk.with3 s.snd.fst (IntKind.wrap IntKind.u64 (s.snd.fst.e + Int.tmod
  (IntKind.wrap IntKind.u64 (List.getD l (Int.toNat (↑s.fst : Int)) (0 : Int))) (6 : Int))), (↑s.fst : Int))).fst.pin) (AVal.bool (bagPut (c, Wk.with3 s.snd.fst
  (IntKind.wrap IntKind.u64 (s.snd.fst.e + Int.tmod (IntKind.wrap IntKind.u64 (List.getD l (Int.toNat (↑s.fst : Int)) (0 : Int))) (6 : Int))), (↑s.fst : Int))).fst.pin) ∧
  EqA (AVal.int IntKind.u64 (bagPut (c, Wk.with3 s.snd.fst (IntKind.wrap IntKind.u64 (s.snd.fst.e + Int.tmod (IntKind.wrap IntKind.u64 (List.getD l (Int.toNat (↑s.fst :
  Int)) (0 : Int))) (6 : Int))), (↑s.fst : Int))).fst.e) (AVal.int IntKind.u64 (bagPut (c, Wk.with3 s.snd.fst (IntKind.wrap IntKind.u64 (s.snd.fst.e + Int.tmod
  (IntKind.wrap IntKind.u64 (List.getD l (Int.toNat (↑s.fst : Int)) (0 : Int))) (6 : Int))), (↑s.fst : Int))).fst.e) ∧ EqA (AVal.list (3 : Nat) (bagPut (c, Wk.with3
  s.snd.fst (IntKind.wrap IntKind.u64 (s.snd.fst.e + Int.tmod (IntKind.wrap IntKind.u64 (List.getD l (Int.toNat (↑s.fst : Int)) (0 : Int))) (6 : Int))), (↑s.fst :
  Int))).fst.rack) (AVal.list (3 : Nat) (bagPut (c, Wk.with3 s.snd.fst (IntKind.wrap IntKind.u64 (s.snd.fst.e + Int.tmod (IntKind.wrap IntKind.u64 (List.getD l (Int.toNat
  (↑s.fst : Int)) (0 : Int))) (6 : Int))), (↑s.fst : Int))).fst.rack) ∧ EqA (AVal.int IntKind.u64 (bagPut (c, Wk.with3 s.snd.fst (IntKind.wrap IntKind.u64 (s.snd.fst.e +
  Int.tmod (IntKind.wrap IntKind.u64 (List.getD l (Int.toNat (↑s.fst : Int)) (0 : Int))) (6 : Int))), (↑s.fst : Int))).fst.t0) (AVal.int IntKind.u64 (bagPut (c, Wk.with3
  s.snd.fst (IntKind.wrap IntKind.u64 (s.snd.fst.e + Int.tmod (IntKind.wrap IntKind.u64 (List.getD l (Int.toNat (↑s.fst : Int)) (0 : Int))) (6 : Int))), (↑s.fst :
  Int))).fst.t0) ∧ EqA (AVal.list (3 : Nat) (bagPut (c, Wk.with3 s.snd.fst (IntKind.wrap IntKind.u64 (s.snd.fst.e + Int.tmod (IntKind.wrap IntKind.u64 (List.getD l
  (Int.toNat (↑s.fst : Int)) (0 : Int))) (6 : Int))), (↑s.fst : Int))).fst.l0) (AVal.list (3 : Nat) (bagPut (c, Wk.with3 s.snd.fst (IntKind.wrap IntKind.u64 (s.snd.fst.e +
  Int.tmod (IntKind.wrap IntKind.u64 (List.getD l (Int.toNat (↑s.fst : Int)) (0 : Int))) (6 : Int))), (↑s.fst : Int))).fst.l0) ∧ EqA (AVal.int IntKind.u64 (bagPut (c,
  Wk.with3 s.snd.fst (IntKind.wrap IntKind.u64 (s.snd.fst.e + Int.tmod (IntKind.wrap IntKind.u64 (List.getD l (Int.toNat (↑s.fst : Int)) (0 : Int))) (6 : Int))), (↑s.fst :
  Int))).fst.t1) (AVal.int IntKind.u64 (bagPut (c, Wk.with3 s.snd.fst (IntKind.wrap IntKind.u64 (s.snd.fst.e + Int.tmod (IntKind.wrap IntKind.u64 (List.getD l (Int.toNat
  (↑s.fst : Int)) (0 : Int))) (6 : Int))), (↑s.fst : Int))).fst.t1) ∧ EqA (AVal.list (3 : Nat) (bagPut (c, Wk.with3 s.snd.fst (IntKind.wrap IntKind.u64 (s.snd.fst.e +
  Int.tmod (IntKind.wrap IntKind.u64 (List.getD l (Int.toNat (↑s.fst : Int)) (0 : Int))) (6 : Int))), (↑s.fst : Int))).fst.l1) (AVal.list (3 : Nat) (bagPut (c, Wk.with3
  s.snd.fst (IntKind.wrap IntKind.u64 (s.snd.fst.e + Int.tmod (IntKind.wrap IntKind.u64 (List.getD l (Int.toNat (↑s.fst : Int)) (0 : Int))) (6 : Int))), (↑s.fst :
  Int))).fst.l1) ∧ EqA (AVal.int IntKind.u64 (bagPut (c, Wk.with3 s.snd.fst (IntKind.wrap IntKind.u64 (s.snd.fst.e + Int.tmod (IntKind.wrap IntKind.u64 (List.getD l
  (Int.toNat (↑s.fst : Int)) (0 : Int))) (6 : Int))), (↑s.fst : Int))).fst.t2) (AVal.int IntKind.u64 (bagPut (c, Wk.with3 s.snd.fst (IntKind.wrap IntKind.u64 (s.snd.fst.e +
  Int.tmod (IntKind.wrap IntKind.u64 (List.getD l (Int.toNat (↑s.fst : Int)) (0 : Int))) (6 : Int))), (↑s.fst : Int))).fst.t2) ∧ EqA (AVal.list (3 : Nat) (bagPut (c,
  Wk.with3 s.snd.fst (IntKind.wrap IntKind.u64 (s.snd.fst.e + Int.tmod (IntKind.wrap IntKind.u64 (List.getD l (Int.toNat (↑s.fst : Int)) (0 : Int))) (6 : Int))), (↑s.fst :
  Int))).fst.l2) (AVal.list (3 : Nat) (bagPut (c, Wk.with3 s.snd.fst (IntKind.wrap IntKind.u64 (s.snd.fst.e + Int.tmod (IntKind.wrap IntKind.u64 (List.getD l (Int.toNat
  (↑s.fst : Int)) (0 : Int))) (6 : Int))), (↑s.fst : Int))).fst.l2) ∧ EqA (AVal.list (3 : Nat) (bagPut (c, Wk.with3 s.snd.fst (IntKind.wrap IntKind.u64 (s.snd.fst.e +
  Int.tmod (IntKind.wrap IntKind.u64 (List.getD l (Int.toNat (↑s.fst : Int)) (0 : Int))) (6 : Int))), (↑s.fst : Int))).fst.hold) (AVal.list (3 : Nat) (bagPut (c, Wk.with3
  s.snd.fst (IntKind.wrap IntKind.u64 (s.snd.fst.e + Int.tmod (IntKind.wrap IntKind.u64 (List.getD l (Int.toNat (↑s.fst : Int)) (0 : Int))) (6 : Int))), (↑s.fst :
  Int))).fst.hold) ∧ EqA (AVal.int IntKind.i64 (bagPut (c, Wk.with3 s.snd.fst (IntKind.wrap IntKind.u64 (s.snd.fst.e + Int.tmod (IntKind.wrap IntKind.u64 (List.getD l
  (Int.toNat (↑s.fst : Int)) (0 : Int))) (6 : Int))), (↑s.fst : Int))).fst.b) (AVal.int IntKind.i64 (bagPut (c, Wk.with3 s.snd.fst (IntKind.wrap IntKind.u64 (s.snd.fst.e +
  Int.tmod (IntKind.wrap IntKind.u64 (List.getD l (Int.toNat (↑s.fst : Int)) (0 : Int))) (6 : Int))), (↑s.fst : Int))).fst.b) ∧ EqA (AVal.int IntKind.i64 (bagPut (c,
  Wk.with3 s.snd.fst (IntKind.wrap IntKind.u64 (s.snd.fst.e + Int.tmod (IntKind.wrap IntKind.u64 (List.getD l (Int.toNat (↑s.fst : Int)) (0 : Int))) (6 : Int))), (↑s.fst :
  Int))).fst.k) (AVal.int IntKind.i64 (bagPut (c, Wk.with3 s.snd.fst (IntKind.wrap IntKind.u64 (s.snd.fst.e + Int.tmod (IntKind.wrap IntKind.u64 (List.getD l (Int.toNat
  (↑s.fst : Int)) (0 : Int))) (6 : Int))), (↑s.fst : Int))).fst.k) ∧ EqA (AVal.int IntKind.i64 (bagPut (c, Wk.with3 s.snd.fst (IntKind.wrap IntKind.u64 (s.snd.fst.e +
  Int.tmod (IntKind.wrap IntKind.u64 (List.getD l (Int.toNat (↑s.fst : Int)) (0 : Int))) (6 : Int))), (↑s.fst : Int))).fst.i) (AVal.int IntKind.i64 (bagPut (c, Wk.with3
  s.snd.fst (IntKind.wrap IntKind.u64 (s.snd.fst.e + Int.tmod (IntKind.wrap IntKind.u64 (List.getD l (Int.toNat (↑s.fst : Int)) (0 : Int))) (6 : Int))), (↑s.fst :
  Int))).fst.i) ∧ EqA (AVal.int IntKind.i64 (bagPut (c, Wk.with3 s.snd.fst (IntKind.wrap IntKind.u64 (s.snd.fst.e + Int.tmod (IntKind.wrap IntKind.u64 (List.getD l
  (Int.toNat (↑s.fst : Int)) (0 : Int))) (6 : Int))), (↑s.fst : Int))).fst.c) (AVal.int IntKind.i64 (bagPut (c, Wk.with3 s.snd.fst (IntKind.wrap IntKind.u64 (s.snd.fst.e +
  Int.tmod (IntKind.wrap IntKind.u64 (List.getD l (Int.toNat (↑s.fst : Int)) (0 : Int))) (6 : Int))), (↑s.fst : Int))).fst.c) ∧ EqA (AVal.int IntKind.i64 (bagPut (c,
  Wk.with3 s.snd.fst (IntKind.wrap IntKind.u64 (s.snd.fst.e + Int.tmod (IntKind.wrap IntKind.u64 (List.getD l (Int.toNat (↑s.fst : Int)) (0 : Int))) (6 : Int))), (↑s.fst :
  Int))).fst.bor) (AVal.int IntKind.i64 (bagPut (c, Wk.with3 s.snd.fst (IntKind.wrap IntKind.u64 (s.snd.fst.e + Int.tmod (IntKind.wrap IntKind.u64 (List.getD l (Int.toNat
  (↑s.fst : Int)) (0 : Int))) (6 : Int))), (↑s.fst : Int))).fst.bor) ∧ EqA (AVal.int IntKind.u64 (bagPut (c, Wk.with3 s.snd.fst (IntKind.wrap IntKind.u64 (s.snd.fst.e +
  Int.tmod (IntKind.wrap IntKind.u64 (List.getD l (Int.toNat (↑s.fst : Int)) (0 : Int))) (6 : Int))), (↑s.fst : Int))).fst.h) (AVal.int IntKind.u64 (bagPut (c, Wk.with3
  s.snd.fst (IntKind.wrap IntKind.u64 (s.snd.fst.e + Int.tmod (IntKind.wrap IntKind.u64 (List.getD l (Int.toNat (↑s.fst : Int)) (0 : Int))) (6 : Int))), (↑s.fst :
  Int))).fst.h) ∧ EqA (AVal.int IntKind.u64 (bagPut (c, Wk.with3 s.snd.fst (IntKind.wrap IntKind.u64 (s.snd.fst.e + Int.tmod (IntKind.wrap IntKind.u64 (List.getD l
  (Int.toNat (↑s.fst : Int)) (0 : Int))) (6 : Int))), (↑s.fst : Int))).fst.n) (AVal.int IntKind.u64 (bagPut (c, Wk.with3 s.snd.fst (IntKind.wrap IntKind.u64 (s.snd.fst.e +
  Int.tmod (IntKind.wrap IntKind.u64 (List.getD l (Int.toNat (↑s.fst : Int)) (0 : Int))) (6 : Int))), (↑s.fst : Int))).fst.n) ∧ EqA (AVal.int IntKind.u64 (bagPut (c,
  Wk.with3 s.snd.fst (IntKind.wrap IntKind.u64 (s.snd.fst.e + Int.tmod (IntKind.wrap IntKind.u64 (List.getD l (Int.toNat (↑s.fst : Int)) (0 : Int))) (6 : Int))), (↑s.fst :
  Int))).fst.v) (AVal.int IntKind.u64 (bagPut (c, Wk.with3 s.snd.fst (IntKind.wrap IntKind.u64 (s.snd.fst.e + Int.tmod (IntKind.wrap IntKind.u64 (List.getD l (Int.toNat
  (↑s.fst : Int)) (0 : Int))) (6 : Int))), (↑s.fst : Int))).fst.v) ∧ EqA (AVal.int IntKind.u64 (bagPut (c, Wk.with3 s.snd.fst (IntKind.wrap IntKind.u64 (s.snd.fst.e +
  Int.tmod (IntKind.wrap IntKind.u64 (List.getD l (Int.toNat (↑s.fst : Int)) (0 : Int))) (6 : Int))), (↑s.fst : Int))).fst.u) (AVal.int IntKind.u64 (bagPut (c, Wk.with3
  s.snd.fst (IntKind.wrap IntKind.u64 (s.snd.fst.e + Int.tmod (IntKind.wrap IntKind.u64 (List.getD l (Int.toNat (↑s.fst : Int)) (0 : Int))) (6 : Int))), (↑s.fst :
  Int))).fst.u) ∧ EqA (AVal.int IntKind.u64 (bagPut (c, Wk.with3 s.snd.fst (IntKind.wrap IntKind.u64 (s.snd.fst.e + Int.tmod (IntKind.wrap IntKind.u64 (List.getD l
  (Int.toNat (↑s.fst : Int)) (0 : Int))) (6 : Int))), (↑s.fst : Int))).fst.g) (AVal.int IntKind.u64 (bagPut (c, Wk.with3 s.snd.fst (IntKind.wrap IntKind.u64 (s.snd.fst.e +
  Int.tmod (IntKind.wrap IntKind.u64 (List.getD l (Int.toNat (↑s.fst : Int)) (0 : Int))) (6 : Int))), (↑s.fst : Int))).fst.g) ∧ EqA (AVal.int IntKind.i64 (bagPut (c,
  Wk.with3 s.snd.fst (IntKind.wrap IntKind.u64 (s.snd.fst.e + Int.tmod (IntKind.wrap IntKind.u64 (List.getD l (Int.toNat (↑s.fst : Int)) (0 : Int))) (6 : Int))), (↑s.fst :
  Int))).fst.j) (AVal.int IntKind.i64 (bagPut (c, Wk.with3 s.snd.fst (IntKind.wrap IntKind.u64 (s.snd.fst.e + Int.tmod (IntKind.wrap IntKind.u64 (List.getD l (Int.toNat
  (↑s.fst : Int)) (0 : Int))) (6 : Int))), (↑s.fst : Int))).fst.j) ∧ EqA (AVal.list (22 : Nat) (bagPut (c, Wk.with3 s.snd.fst (IntKind.wrap IntKind.u64 (s.snd.fst.e +
  Int.tmod (IntKind.wrap IntKind.u64 (List.getD l (Int.toNat (↑s.fst : Int)) (0 : Int))) (6 : Int))), (↑s.fst : Int))).fst.read) (AVal.list (22 : Nat) (bagPut (c, Wk.with3
  s.snd.fst (IntKind.wrap IntKind.u64 (s.snd.fst.e + Int.tmod (IntKind.wrap IntKind.u64 (List.getD l (Int.toNat (↑s.fst : Int)) (0 : Int))) (6 : Int))), (↑s.fst :
  Int))).fst.read) ∧ EqA (AVal.int IntKind.u64 (bagPut (c, Wk.with3 s.snd.fst (IntKind.wrap IntKind.u64 (s.snd.fst.e + Int.tmod (IntKind.wrap IntKind.u64 (List.getD l
  (Int.toNat (↑s.fst : Int)) (0 : Int))) (6 : Int))), (↑s.fst : Int))).fst.t) (AVal.int IntKind.u64 (bagPut (c, Wk.with3 s.snd.fst (IntKind.wrap IntKind.u64 (s.snd.fst.e +
  Int.tmod (IntKind.wrap IntKind.u64 (List.getD l (Int.toNat (↑s.fst : Int)) (0 : Int))) (6 : Int))), (↑s.fst : Int))).fst.t) ∧ EqA (AVal.int IntKind.i64 (bagPut (c,
  Wk.with3 s.snd.fst (IntKind.wrap IntKind.u64 (s.snd.fst.e + Int.tmod (IntKind.wrap IntKind.u64 (List.getD l (Int.toNat (↑s.fst : Int)) (0 : Int))) (6 : Int))), (↑s.fst :
  Int))).fst.ret) (AVal.int IntKind.i64 (bagPut (c, Wk.with3 s.snd.fst (IntKind.wrap IntKind.u64 (s.snd.fst.e + Int.tmod (IntKind.wrap IntKind.u64 (List.getD l (Int.toNat
  (↑s.fst : Int)) (0 : Int))) (6 : Int))), (↑s.fst : Int))).fst.ret) ∧ EqA (AVal.bool (bagPut (c, Wk.with3 s.snd.fst (IntKind.wrap IntKind.u64 (s.snd.fst.e + Int.tmod
  (IntKind.wrap IntKind.u64 (List.getD l (Int.toNat (↑s.fst : Int)) (0 : Int))) (6 : Int))), (↑s.fst : Int))).fst.give) (AVal.bool (bagPut (c, Wk.with3 s.snd.fst
  (IntKind.wrap IntKind.u64 (s.snd.fst.e + Int.tmod (IntKind.wrap IntKind.u64 (List.getD l (Int.toNat (↑s.fst : Int)) (0 : Int))) (6 : Int))), (↑s.fst : Int))).fst.give) ∧
  True) ∧ True) ∧ True)) (K (AVal.bool false))) (K (AVal.bool false))) (K (AVal.bool false))) (∃ (s' : Nat × Wk × List Int), WaitInv (List.length l) s'.fst s'.snd.fst
  s'.snd.snd ∧ List.length l - s'.fst < List.length l - s.fst ∧ (EqA (AVal.int IntKind.i64 (↑(List.length (bagPut (c, Wk.with3 s.snd.fst (IntKind.wrap IntKind.u64
  (s.snd.fst.e + Int.tmod (IntKind.wrap IntKind.u64 (List.getD l (Int.toNat (↑s.fst : Int)) (0 : Int))) (6 : Int))), (↑s.fst : Int))).fst.hold) : Int)) (AVal.int
  IntKind.i64 (↑(List.length s'.snd.fst.hold) : Int)) ∧ EqA (AVal.int IntKind.i64 (IntKind.wrap IntKind.i64 ((↑s.fst : Int) + (1 : Int)))) (AVal.int IntKind.i64 (↑s'.fst :
  Int)) ∧ True) ∧ (EqR (Res.cells (38 : Nat) [AVal.int IntKind.i64 c.w, AVal.int IntKind.i64 c.s, AVal.int IntKind.i64 c.b, AVal.int IntKind.i64 c.o, AVal.int IntKind.i64
  c.e, AVal.int IntKind.i64 c.r, AVal.int IntKind.i64 c.a, AVal.int IntKind.u64 c.l]) (Res.cells (38 : Nat) [AVal.int IntKind.i64 c.w, AVal.int IntKind.i64 c.s, AVal.int
  IntKind.i64 c.b, AVal.int IntKind.i64 c.o, AVal.int IntKind.i64 c.e, AVal.int IntKind.i64 c.r, AVal.int IntKind.i64 c.a, AVal.int IntKind.u64 c.l]) ∧ (True ∧ EqA
  (AVal.int IntKind.i64 (bagPut (c, Wk.with3 s.snd.fst (IntKind.wrap IntKind.u64 (s.snd.fst.e + Int.tmod (IntKind.wrap IntKind.u64 (List.getD l (Int.toNat (↑s.fst : Int))
  (0 : Int))) (6 : Int))), (↑s.fst : Int))).fst.line) (AVal.int IntKind.i64 s'.snd.fst.line) ∧ EqA (AVal.int IntKind.i64 (bagPut (c, Wk.with3 s.snd.fst (IntKind.wrap
  IntKind.u64 (s.snd.fst.e + Int.tmod (IntKind.wrap IntKind.u64 (List.getD l (Int.toNat (↑s.fst : Int)) (0 : Int))) (6 : Int))), (↑s.fst : Int))).fst.op.k) (AVal.int
  IntKind.i64 s'.snd.fst.op.k) ∧ EqA (AVal.int IntKind.u64 (bagPut (c, Wk.with3 s.snd.fst (IntKind.wrap IntKind.u64 (s.snd.fst.e + Int.tmod (IntKind.wrap IntKind.u64
  (List.getD l (Int.toNat (↑s.fst : Int)) (0 : Int))) (6 : Int))), (↑s.fst : Int))).fst.op.t) (AVal.int IntKind.u64 s'.snd.fst.op.t) ∧ EqA (AVal.int IntKind.u64 (bagPut (c,
  Wk.with3 s.snd.fst (IntKind.wrap IntKind.u64 (s.snd.fst.e + Int.tmod (IntKind.wrap IntKind.u64 (List.getD l (Int.toNat (↑s.fst : Int)) (0 : Int))) (6 : Int))), (↑s.fst :
  Int))).fst.op.x) (AVal.int IntKind.u64 s'.snd.fst.op.x) ∧ EqA (AVal.int IntKind.i64 (bagPut (c, Wk.with3 s.snd.fst (IntKind.wrap IntKind.u64 (s.snd.fst.e + Int.tmod
  (IntKind.wrap IntKind.u64 (List.getD l (Int.toNat (↑s.fst : Int)) (0 : Int))) (6 : Int))), (↑s.fst : Int))).fst.op.s) (AVal.int IntKind.i64 s'.snd.fst.op.s) ∧ EqA
  (AVal.bool (bagPut (c, Wk.with3 s.snd.fst (IntKind.wrap IntKind.u64 (s.snd.fst.e + Int.tmod (IntKind.wrap IntKind.u64 (List.getD l (Int.toNat (↑s.fst : Int)) (0 : Int)))
  (6 : Int))), (↑s.fst : Int))).fst.op.u) (AVal.bool s'.snd.fst.op.u) ∧ EqA (AVal.int IntKind.i64 (bagPut (c, Wk.with3 s.snd.fst (IntKind.wrap IntKind.u64 (s.snd.fst.e +
  Int.tmod (IntKind.wrap IntKind.u64 (List.getD l (Int.toNat (↑s.fst : Int)) (0 : Int))) (6 : Int))), (↑s.fst : Int))).fst.op.b) (AVal.int IntKind.i64 s'.snd.fst.op.b) ∧
  EqA (AVal.int IntKind.i64 (bagPut (c, Wk.with3 s.snd.fst (IntKind.wrap IntKind.u64 (s.snd.fst.e + Int.tmod (IntKind.wrap IntKind.u64 (List.getD l (Int.toNat (↑s.fst :
  Int)) (0 : Int))) (6 : Int))), (↑s.fst : Int))).fst.op.n) (AVal.int IntKind.i64 s'.snd.fst.op.n) ∧ EqA (AVal.bool (bagPut (c, Wk.with3 s.snd.fst (IntKind.wrap IntKind.u64
  (s.snd.fst.e + Int.tmod (IntKind.wrap IntKind.u64 (List.getD l (Int.toNat (↑s.fst : Int)) (0 : Int))) (6 : Int))), (↑s.fst : Int))).fst.pin) (AVal.bool s'.snd.fst.pin) ∧
  EqA (AVal.int IntKind.u64 (bagPut (c, Wk.with3 s.snd.fst (IntKind.wrap IntKind.u64 (s.snd.fst.e + Int.tmod (IntKind.wrap IntKind.u64 (List.getD l (Int.toNat (↑s.fst :
  Int)) (0 : Int))) (6 : Int))), (↑s.fst : Int))).fst.e) (AVal.int IntKind.u64 s'.snd.fst.e) ∧ EqA (AVal.list (3 : Nat) (bagPut (c, Wk.with3 s.snd.fst (IntKind.wrap
  IntKind.u64 (s.snd.fst.e + Int.tmod (IntKind.wrap IntKind.u64 (List.getD l (Int.toNat (↑s.fst : Int)) (0 : Int))) (6 : Int))), (↑s.fst : Int))).fst.rack) (AVal.list (3 :
  Nat) s'.snd.fst.rack) ∧ EqA (AVal.int IntKind.u64 (bagPut (c, Wk.with3 s.snd.fst (IntKind.wrap IntKind.u64 (s.snd.fst.e + Int.tmod (IntKind.wrap IntKind.u64 (List.getD l
  (Int.toNat (↑s.fst : Int)) (0 : Int))) (6 : Int))), (↑s.fst : Int))).fst.t0) (AVal.int IntKind.u64 s'.snd.fst.t0) ∧ EqA (AVal.list (3 : Nat) (bagPut (c, Wk.with3
  s.snd.fst (IntKind.wrap IntKind.u64 (s.snd.fst.e + Int.tmod (IntKind.wrap IntKind.u64 (List.getD l (Int.toNat (↑s.fst : Int)) (0 : Int))) (6 : Int))), (↑s.fst :
  Int))).fst.l0) (AVal.list (3 : Nat) s'.snd.fst.l0) ∧ EqA (AVal.int IntKind.u64 (bagPut (c, Wk.with3 s.snd.fst (IntKind.wrap IntKind.u64 (s.snd.fst.e + Int.tmod
  (IntKind.wrap IntKind.u64 (List.getD l (Int.toNat (↑s.fst : Int)) (0 : Int))) (6 : Int))), (↑s.fst : Int))).fst.t1) (AVal.int IntKind.u64 s'.snd.fst.t1) ∧ EqA (AVal.list
  (3 : Nat) (bagPut (c, Wk.with3 s.snd.fst (IntKind.wrap IntKind.u64 (s.snd.fst.e + Int.tmod (IntKind.wrap IntKind.u64 (List.getD l (Int.toNat (↑s.fst : Int)) (0 : Int)))
  (6 : Int))), (↑s.fst : Int))).fst.l1) (AVal.list (3 : Nat) s'.snd.fst.l1) ∧ EqA (AVal.int IntKind.u64 (bagPut (c, Wk.with3 s.snd.fst (IntKind.wrap IntKind.u64
  (s.snd.fst.e + Int.tmod (IntKind.wrap IntKind.u64 (List.getD l (Int.toNat (↑s.fst : Int)) (0 : Int))) (6 : Int))), (↑s.fst : Int))).fst.t2) (AVal.int IntKind.u64
  s'.snd.fst.t2) ∧ EqA (AVal.list (3 : Nat) (bagPut (c, Wk.with3 s.snd.fst (IntKind.wrap IntKind.u64 (s.snd.fst.e + Int.tmod (IntKind.wrap IntKind.u64 (List.getD l
  (Int.toNat (↑s.fst : Int)) (0 : Int))) (6 : Int))), (↑s.fst : Int))).fst.l2) (AVal.list (3 : Nat) s'.snd.fst.l2) ∧ EqA (AVal.list (3 : Nat) (bagPut (c, Wk.with3 s.snd.fst
  (IntKind.wrap IntKind.u64 (s.snd.fst.e + Int.tmod (IntKind.wrap IntKind.u64 (List.getD l (Int.toNat (↑s.fst : Int)) (0 : Int))) (6 : Int))), (↑s.fst : Int))).fst.hold)
  (AVal.list (3 : Nat) s'.snd.fst.hold) ∧ EqA (AVal.int IntKind.i64 (bagPut (c, Wk.with3 s.snd.fst (IntKind.wrap IntKind.u64 (s.snd.fst.e + Int.tmod (IntKind.wrap
  IntKind.u64 (List.getD l (Int.toNat (↑s.fst : Int)) (0 : Int))) (6 : Int))), (↑s.fst : Int))).fst.b) (AVal.int IntKind.i64 s'.snd.fst.b) ∧ EqA (AVal.int IntKind.i64
  (bagPut (c, Wk.with3 s.snd.fst (IntKind.wrap IntKind.u64 (s.snd.fst.e + Int.tmod (IntKind.wrap IntKind.u64 (List.getD l (Int.toNat (↑s.fst : Int)) (0 : Int))) (6 :
  Int))), (↑s.fst : Int))).fst.k) (AVal.int IntKind.i64 s'.snd.fst.k) ∧ EqA (AVal.int IntKind.i64 (bagPut (c, Wk.with3 s.snd.fst (IntKind.wrap IntKind.u64 (s.snd.fst.e +
  Int.tmod (IntKind.wrap IntKind.u64 (List.getD l (Int.toNat (↑s.fst : Int)) (0 : Int))) (6 : Int))), (↑s.fst : Int))).fst.i) (AVal.int IntKind.i64 s'.snd.fst.i) ∧ EqA
  (AVal.int IntKind.i64 (bagPut (c, Wk.with3 s.snd.fst (IntKind.wrap IntKind.u64 (s.snd.fst.e + Int.tmod (IntKind.wrap IntKind.u64 (List.getD l (Int.toNat (↑s.fst : Int))
  (0 : Int))) (6 : Int))), (↑s.fst : Int))).fst.c) (AVal.int IntKind.i64 s'.snd.fst.c) ∧ EqA (AVal.int IntKind.i64 (bagPut (c, Wk.with3 s.snd.fst (IntKind.wrap IntKind.u64
  (s.snd.fst.e + Int.tmod (IntKind.wrap IntKind.u64 (List.getD l (Int.toNat (↑s.fst : Int)) (0 : Int))) (6 : Int))), (↑s.fst : Int))).fst.bor) (AVal.int IntKind.i64
  s'.snd.fst.bor) ∧ EqA (AVal.int IntKind.u64 (bagPut (c, Wk.with3 s.snd.fst (IntKind.wrap IntKind.u64 (s.snd.fst.e + Int.tmod (IntKind.wrap IntKind.u64 (List.getD l
  (Int.toNat (↑s.fst : Int)) (0 : Int))) (6 : Int))), (↑s.fst : Int))).fst.h) (AVal.int IntKind.u64 s'.snd.fst.h) ∧ EqA (AVal.int IntKind.u64 (bagPut (c, Wk.with3 s.snd.fst
  (IntKind.wrap IntKind.u64 (s.snd.fst.e + Int.tmod (IntKind.wrap IntKind.u64 (List.getD l (Int.toNat (↑s.fst : Int)) (0 : Int))) (6 : Int))), (↑s.fst : Int))).fst.n)
  (AVal.int IntKind.u64 s'.snd.fst.n) ∧ EqA (AVal.int IntKind.u64 (bagPut (c, Wk.with3 s.snd.fst (IntKind.wrap IntKind.u64 (s.snd.fst.e + Int.tmod (IntKind.wrap IntKind.u64
  (List.getD l (Int.toNat (↑s.fst : Int)) (0 : Int))) (6 : Int))), (↑s.fst : Int))).fst.v) (AVal.int IntKind.u64 s'.snd.fst.v) ∧ EqA (AVal.int IntKind.u64 (bagPut (c,
  Wk.with3 s.snd.fst (IntKind.wrap IntKind.u64 (s.snd.fst.e + Int.tmod (IntKind.wrap IntKind.u64 (List.getD l (Int.toNat (↑s.fst : Int)) (0 : Int))) (6 : Int))), (↑s.fst :
  Int))).fst.u) (AVal.int IntKind.u64 s'.snd.fst.u) ∧ EqA (AVal.int IntKind.u64 (bagPut (c, Wk.with3 s.snd.fst (IntKind.wrap IntKind.u64 (s.snd.fst.e + Int.tmod
  (IntKind.wrap IntKind.u64 (List.getD l (Int.toNat (↑s.fst : Int)) (0 : Int))) (6 : Int))), (↑s.fst : Int))).fst.g) (AVal.int IntKind.u64 s'.snd.fst.g) ∧ EqA (AVal.int
  IntKind.i64 (bagPut (c, Wk.with3 s.snd.fst (IntKind.wrap IntKind.u64 (s.snd.fst.e + Int.tmod (IntKind.wrap IntKind.u64 (List.getD l (Int.toNat (↑s.fst : Int)) (0 : Int)))
  (6 : Int))), (↑s.fst : Int))).fst.j) (AVal.int IntKind.i64 s'.snd.fst.j) ∧ EqA (AVal.list (22 : Nat) (bagPut (c, Wk.with3 s.snd.fst (IntKind.wrap IntKind.u64 (s.snd.fst.e
  + Int.tmod (IntKind.wrap IntKind.u64 (List.getD l (Int.toNat (↑s.fst : Int)) (0 : Int))) (6 : Int))), (↑s.fst : Int))).fst.read) (AVal.list (22 : Nat) s'.snd.fst.read) ∧
  EqA (AVal.int IntKind.u64 (bagPut (c, Wk.with3 s.snd.fst (IntKind.wrap IntKind.u64 (s.snd.fst.e + Int.tmod (IntKind.wrap IntKind.u64 (List.getD l (Int.toNat (↑s.fst :
  Int)) (0 : Int))) (6 : Int))), (↑s.fst : Int))).fst.t) (AVal.int IntKind.u64 s'.snd.fst.t) ∧ EqA (AVal.int IntKind.i64 (bagPut (c, Wk.with3 s.snd.fst (IntKind.wrap
  IntKind.u64 (s.snd.fst.e + Int.tmod (IntKind.wrap IntKind.u64 (List.getD l (Int.toNat (↑s.fst : Int)) (0 : Int))) (6 : Int))), (↑s.fst : Int))).fst.ret) (AVal.int
  IntKind.i64 s'.snd.fst.ret) ∧ EqA (AVal.bool (bagPut (c, Wk.with3 s.snd.fst (IntKind.wrap IntKind.u64 (s.snd.fst.e + Int.tmod (IntKind.wrap IntKind.u64 (List.getD l
  (Int.toNat (↑s.fst : Int)) (0 : Int))) (6 : Int))), (↑s.fst : Int))).fst.give) (AVal.bool s'.snd.fst.give) ∧ True) ∧ EqR (Res.vec (22 : Nat) (List.set s.snd.snd
  (Int.toNat (↑s.fst : Int)) (IntKind.wrap IntKind.u64 (IntKind.wrap IntKind.u64 (s.snd.fst.e + Int.tmod (IntKind.wrap IntKind.u64 (List.getD l (Int.toNat (↑s.fst : Int))
  (0 : Int))) (6 : Int)) + (1 : Int))))) (Res.vec (22 : Nat) s'.snd.snd) ∧ True) ∧ True))) (K (AVal.bool false)))) (Easy s.snd.fst ∧ Easy (ripeW (s.snd.fst, IntKind.wrap
  IntKind.u64 (s.snd.fst.e + (3 : Int)))) ∧ cnd (countW (ripeW (s.snd.fst, IntKind.wrap IntKind.u64 (s.snd.fst.e + (3 : Int)))) != (0 : Int)) (K (AVal.bool false)) (((0 :
  Int) ≤ (↑(List.length l) : Int) ∧ (↑(List.length l) : Int) = (↑(List.length l) : Int) ∧ (↑(1 : Nat) : Int) * (↑(List.length l) : Int) ≤ (140737488355328 : Int) ∧
  (↑(List.length l) : Int) ≤ (140737488355328 : Int)) ∧ (∃ (s0 : Nat × List Bool), (s0.fst ≤ List.length (ripeW (s.snd.fst, IntKind.wrap IntKind.u64 (s.snd.fst.e + (3 :
  Int)))).hold ∧ s0.snd = seenL (List.length l) (List.take s0.fst (ripeW (s.snd.fst, IntKind.wrap IntKind.u64 (s.snd.fst.e + (3 : Int)))).hold)) ∧ (EqA (AVal.int
  IntKind.i64 (0 : Int)) (AVal.int IntKind.i64 (↑s0.fst : Int)) ∧ True) ∧ ((True ∧ True ∧ True ∧ True ∧ True ∧ True ∧ True ∧ True ∧ True ∧ True ∧ True ∧ True ∧ True ∧ True
  ∧ True ∧ True ∧ True ∧ True ∧ EqA (AVal.list (3 : Nat) (ripeW (s.snd.fst, IntKind.wrap IntKind.u64 (s.snd.fst.e + (3 : Int)))).hold) (AVal.list (3 : Nat) (ripeW
  (s.snd.fst, IntKind.wrap IntKind.u64 (s.snd.fst.e + (3 : Int)))).hold) ∧ True ∧ True ∧ True ∧ True ∧ True ∧ True ∧ True ∧ True ∧ True ∧ True ∧ True ∧ True ∧ True ∧ True ∧
  True ∧ True) ∧ EqR (Res.vec (22 : Nat) s.snd.snd) (Res.vec (22 : Nat) s.snd.snd) ∧ EqR (Res.vec (4 : Nat) (List.replicate (Int.toNat (↑(List.length l) : Int))
  (Ytggaecdhgbdilaa.K.dflt (tab (4 : Nat))))) (Res.vec (4 : Nat) s0.snd) ∧ True) ∧ True) ∧ ∀ (s_1 : Nat × List Bool), s_1.fst ≤ List.length (ripeW (s.snd.fst, IntKind.wrap
  IntKind.u64 (s.snd.fst.e + (3 : Int)))).hold ∧ s_1.snd = seenL (List.length l) (List.take s_1.fst (ripeW (s.snd.fst, IntKind.wrap IntKind.u64 (s.snd.fst.e + (3 :
  Int)))).hold) → cnd (decide ((↑s_1.fst : Int) < (↑(List.length (ripeW (s.snd.fst, IntKind.wrap IntKind.u64 (s.snd.fst.e + (3 : Int)))).hold) : Int))) (((0 : Int) ≤
  (↑s_1.fst : Int) ∧ (↑s_1.fst : Int) < (↑(List.length (ripeW (s.snd.fst, IntKind.wrap IntKind.u64 (s.snd.fst.e + (3 : Int)))).hold) : Int)) ∧ cnd (decide (List.getD (ripeW
  (s.snd.fst, IntKind.wrap IntKind.u64 (s.snd.fst.e + (3 : Int)))).hold (Int.toNat (↑s_1.fst : Int)) (0 : Int) < (0 : Int)) == false) (cnd (decide (List.getD (ripeW
  (s.snd.fst, IntKind.wrap IntKind.u64 (s.snd.fst.e + (3 : Int)))).hold (Int.toNat (↑s_1.fst : Int)) (0 : Int) ≥ (↑(List.length l) : Int)) == false) (((0 : Int) ≤ List.getD
  (ripeW (s.snd.fst, IntKind.wrap IntKind.u64 (s.snd.fst.e + (3 : Int)))).hold (Int.toNat (↑s_1.fst : Int)) (0 : Int) ∧ List.getD (ripeW (s.snd.fst, IntKind.wrap
  IntKind.u64 (s.snd.fst.e + (3 : Int)))).hold (Int.toNat (↑s_1.fst : Int)) (0 : Int) < (↑(List.length s_1.snd) : Int)) ∧ Int.toNat (List.getD (ripeW (s.snd.fst,
  IntKind.wrap IntKind.u64 (s.snd.fst.e + (3 : Int)))).hold (Int.toNat (↑s_1.fst : Int)) (0 : Int)) < List.length s_1.snd ∧ cnd (List.getD s_1.snd (Int.toNat (List.getD
  (ripeW (s.snd.fst, IntKind.wrap IntKind.u64 (s.snd.fst.e + (3 : Int)))).hold (Int.toNat (↑s_1.fst : Int)) (0 : Int))) (Ytggaecdhgbdilaa.K.dflt (tab (4 : TypeId))) ==
  false) (((0 : Int) ≤ List.getD (ripeW (s.snd.fst, IntKind.wrap IntKind.u64 (s.snd.fst.e + (3 : Int)))).hold (Int.toNat (↑s_1.fst : Int)) (0 : Int) ∧ List.getD (ripeW
  (s.snd.fst, IntKind.wrap IntKind.u64 (s.snd.fst.e + (3 : Int)))).hold (Int.toNat (↑s_1.fst : Int)) (0 : Int) < (↑(List.length s.snd.snd) : Int)) ∧ Int.toNat (List.getD
  (ripeW (s.snd.fst, IntKind.wrap IntKind.u64 (s.snd.fst.e + (3 : Int)))).hold (Int.toNat (↑s_1.fst : Int)) (0 : Int)) < List.length s.snd.snd ∧ cnd (List.getD s.snd.snd
  (Int.toNat (List.getD (ripeW (s.snd.fst, IntKind.wrap IntKind.u64 (s.snd.fst.e + (3 : Int)))).hold (Int.toNat (↑s_1.fst : Int)) (0 : Int))) (0 : Int) == (0 : Int)) (K
  (AVal.bool false)) (((0 : Int) ≤ List.getD (ripeW (s.snd.fst, IntKind.wrap IntKind.u64 (s.snd.fst.e + (3 : Int)))).hold (Int.toNat (↑s_1.fst : Int)) (0 : Int) ∧ List.getD
  (ripeW (s.snd.fst, IntKind.wrap IntKind.u64 (s.snd.fst.e + (3 : Int)))).hold (Int.toNat (↑s_1.fst : Int)) (0 : Int) < (↑(List.length s_1.snd) : Int)) ∧ Int.toNat
  (List.getD (ripeW (s.snd.fst, IntKind.wrap IntKind.u64 (s.snd.fst.e + (3 : Int)))).hold (Int.toNat (↑s_1.fst : Int)) (0 : Int)) < List.length s_1.snd ∧ ∃ (s' : Nat × List
  Bool), (s'.fst ≤ List.length (ripeW (s.snd.fst, IntKind.wrap IntKind.u64 (s.snd.fst.e + (3 : Int)))).hold ∧ s'.snd = seenL (List.length l) (List.take s'.fst (ripeW
  (s.snd.fst, IntKind.wrap IntKind.u64 (s.snd.fst.e + (3 : Int)))).hold)) ∧ List.length (ripeW (s.snd.fst, IntKind.wrap IntKind.u64 (s.snd.fst.e + (3 : Int)))).hold -
  s'.fst < List.length (ripeW (s.snd.fst, IntKind.wrap IntKind.u64 (s.snd.fst.e + (3 : Int)))).hold - s_1.fst ∧ (EqA (AVal.int IntKind.i64 (IntKind.wrap IntKind.i64
  ((↑s_1.fst : Int) + (1 : Int)))) (AVal.int IntKind.i64 (↑s'.fst : Int)) ∧ True) ∧ ((True ∧ True ∧ True ∧ True ∧ True ∧ True ∧ True ∧ True ∧ True ∧ True ∧ True ∧ True ∧
  True ∧ True ∧ True ∧ True ∧ True ∧ True ∧ EqA (AVal.list (3 : Nat) (ripeW (s.snd.fst, IntKind.wrap IntKind.u64 (s.snd.fst.e + (3 : Int)))).hold) (AVal.list (3 : Nat)
  (ripeW (s.snd.fst, IntKind.wrap IntKind.u64 (s.snd.fst.e + (3 : Int)))).hold) ∧ True ∧ True ∧ True ∧ True ∧ True ∧ True ∧ True ∧ True ∧ True ∧ True ∧ True ∧ True ∧ True ∧
  True ∧ True ∧ True) ∧ EqR (Res.vec (22 : Nat) s.snd.snd) (Res.vec (22 : Nat) s.snd.snd) ∧ EqR (Res.vec (4 : Nat) (List.set s_1.snd (Int.toNat (List.getD (ripeW
  (s.snd.fst, IntKind.wrap IntKind.u64 (s.snd.fst.e + (3 : Int)))).hold (Int.toNat (↑s_1.fst : Int)) (0 : Int))) true)) (Res.vec (4 : Nat) s'.snd) ∧ True) ∧ True)) (K
  (AVal.bool false))) (K (AVal.bool false))) (K (AVal.bool false))) ((∃ (s0 : Nat), s0 ≤ List.length l ∧ (EqA (AVal.int IntKind.i64 (0 : Int)) (AVal.int IntKind.i64 (↑s0 :
  Int)) ∧ True) ∧ (EqR (Res.vec (22 : Nat) s.snd.snd) (Res.vec (22 : Nat) s.snd.snd) ∧ EqR (Res.vec (4 : Nat) s_1.snd) (Res.vec (4 : Nat) s_1.snd) ∧ True) ∧ True) ∧ ∀ (s_2
  : Nat), s_2 ≤ List.length l → cnd (decide ((↑s_2 : Int) < (↑(List.length l) : Int))) (((0 : Int) ≤ (↑s_2 : Int) ∧ (↑s_2 : Int) < (↑(List.length s_1.snd) : Int)) ∧
  Int.toNat (↑s_2 : Int) < List.length s_1.snd ∧ ((0 : Int) ≤ (↑s_2 : Int) ∧ (↑s_2 : Int) < (↑(List.length s.snd.snd) : Int)) ∧ Int.toNat (↑s_2 : Int) < List.length
  s.snd.snd ∧ cnd (!List.getD s_1.snd (Int.toNat (↑s_2 : Int)) (Ytggaecdhgbdilaa.K.dflt (tab (4 : TypeId))) == (List.getD s.snd.snd (Int.toNat (↑s_2 : Int)) (0 : Int) != (0
  : Int))) (K (AVal.bool false)) (∃ (s' : Nat), s' ≤ List.length l ∧ List.length l - s' < List.length l - s_2 ∧ (EqA (AVal.int IntKind.i64 (IntKind.wrap IntKind.i64 ((↑s_2
  : Int) + (1 : Int)))) (AVal.int IntKind.i64 (↑s' : Int)) ∧ True) ∧ (EqR (Res.vec (22 : Nat) s.snd.snd) (Res.vec (22 : Nat) s.snd.snd) ∧ EqR (Res.vec (4 : Nat) s_1.snd)
  (Res.vec (4 : Nat) s_1.snd) ∧ True) ∧ True)) (K (AVal.bool true))))))) := by kernel_rfl

end Go.Proofs.Ytggaecdhgbdilaa
