/- What the functions of package bag compute, printed. No condition. -/
import Derived.Test.YtggaecdhgbdilaaBag6
set_option linter.unusedVariables false
set_option maxRecDepth 100000
namespace Go.Proofs.Ytggaecdhgbdilaa
open Go Go.Ax

theorem vc_lroom (K : AVal El → Prop) (c : Cfg) (e m : Int) : aexecF cnd cx ΓB (specRoom c) 200 Try.f7 (codeOf Try.f7) (aRoomL.enc (c, e, m)) [] (fun y _ => K y) = ( True
  ∧ (∃ (s0 : Nat × Wk), RoomInv c s0.fst s0.snd ∧ (EqA (AVal.int IntKind.i64 (0 : Int)) (AVal.int IntKind.i64 (↑s0.fst : Int)) ∧ True) ∧ (EqR (Res.cells (38 : Nat)
  [AVal.int IntKind.i64 c.w, AVal.int IntKind.i64 c.s, AVal.int IntKind.i64 c.b, AVal.int IntKind.i64 c.o, AVal.int IntKind.i64 c.e, AVal.int IntKind.i64 c.r, AVal.int
  IntKind.i64 c.a, AVal.int IntKind.u64 c.l]) (Res.cells (38 : Nat) [AVal.int IntKind.i64 c.w, AVal.int IntKind.i64 c.s, AVal.int IntKind.i64 c.b, AVal.int IntKind.i64 c.o,
  AVal.int IntKind.i64 c.e, AVal.int IntKind.i64 c.r, AVal.int IntKind.i64 c.a, AVal.int IntKind.u64 c.l]) ∧ (True ∧ EqA (AVal.int IntKind.i64 (0 : Int)) (AVal.int
  IntKind.i64 s0.snd.line) ∧ EqA (AVal.int IntKind.i64 (0 : Int)) (AVal.int IntKind.i64 s0.snd.op.k) ∧ EqA (AVal.int IntKind.u64 (0 : Int)) (AVal.int IntKind.u64
  s0.snd.op.t) ∧ EqA (AVal.int IntKind.u64 (0 : Int)) (AVal.int IntKind.u64 s0.snd.op.x) ∧ EqA (AVal.int IntKind.i64 (0 : Int)) (AVal.int IntKind.i64 s0.snd.op.s) ∧ EqA
  (AVal.bool false) (AVal.bool s0.snd.op.u) ∧ EqA (AVal.int IntKind.i64 (0 : Int)) (AVal.int IntKind.i64 s0.snd.op.b) ∧ EqA (AVal.int IntKind.i64 (0 : Int)) (AVal.int
  IntKind.i64 s0.snd.op.n) ∧ EqA (AVal.bool false) (AVal.bool s0.snd.pin) ∧ EqA (AVal.int IntKind.u64 e) (AVal.int IntKind.u64 s0.snd.e) ∧ s0.snd.rack = [] ∧ EqA (AVal.int
  IntKind.u64 (IntKind.wrap IntKind.u64 (e + (1 : Int)))) (AVal.int IntKind.u64 s0.snd.t0) ∧ s0.snd.l0 = [] ∧ EqA (AVal.int IntKind.u64 (IntKind.wrap IntKind.u64 (e + (1 :
  Int)))) (AVal.int IntKind.u64 s0.snd.t1) ∧ s0.snd.l1 = [] ∧ EqA (AVal.int IntKind.u64 (IntKind.wrap IntKind.u64 (e + (1 : Int)))) (AVal.int IntKind.u64 s0.snd.t2) ∧
  s0.snd.l2 = [] ∧ s0.snd.hold = [] ∧ EqA (AVal.int IntKind.i64 (0 : Int)) (AVal.int IntKind.i64 s0.snd.b) ∧ EqA (AVal.int IntKind.i64 (0 : Int)) (AVal.int IntKind.i64
  s0.snd.k) ∧ EqA (AVal.int IntKind.i64 (0 : Int)) (AVal.int IntKind.i64 s0.snd.i) ∧ EqA (AVal.int IntKind.i64 (0 : Int)) (AVal.int IntKind.i64 s0.snd.c) ∧ EqA (AVal.int
  IntKind.i64 (0 : Int)) (AVal.int IntKind.i64 s0.snd.bor) ∧ EqA (AVal.int IntKind.u64 (0 : Int)) (AVal.int IntKind.u64 s0.snd.h) ∧ EqA (AVal.int IntKind.u64 (0 : Int))
  (AVal.int IntKind.u64 s0.snd.n) ∧ EqA (AVal.int IntKind.u64 (0 : Int)) (AVal.int IntKind.u64 s0.snd.v) ∧ EqA (AVal.int IntKind.u64 (0 : Int)) (AVal.int IntKind.u64
  s0.snd.u) ∧ EqA (AVal.int IntKind.u64 (0 : Int)) (AVal.int IntKind.u64 s0.snd.g) ∧ EqA (AVal.int IntKind.i64 (0 : Int)) (AVal.int IntKind.i64 s0.snd.j) ∧ s0.snd.read = []
  ∧ EqA (AVal.int IntKind.u64 (0 : Int)) (AVal.int IntKind.u64 s0.snd.t) ∧ EqA (AVal.int IntKind.i64 (0 : Int)) (AVal.int IntKind.i64 s0.snd.ret) ∧ EqA (AVal.bool false)
  (AVal.bool s0.snd.give) ∧ True) ∧ True) ∧ True) ∧ ∀ (s : Nat × Wk), RoomInv c s.fst s.snd → ((20 : Int) = (0 : Int) → False) ∧ cnd (decide ((↑s.fst : Int) < Int.tmod
  (IntKind.wrap IntKind.i64 m) (20 : Int))) (Easy s.snd ∧ cnd ((!(bagPut (c, s.snd, (↑s.fst : Int))).snd == decide ((↑s.fst : Int) < c.a)) == false) (cnd ((bagPut (c,
  s.snd, (↑s.fst : Int))).snd == true) (Easy (bagPut (c, s.snd, (↑s.fst : Int))).fst ∧ cnd ((countW (bagPut (c, s.snd, (↑s.fst : Int))).fst != IntKind.wrap IntKind.i64
  ((↑s.fst : Int) + (1 : Int))) == false) (cnd ((!(bagPut (c, s.snd, (↑s.fst : Int))).snd) == true) (Easy (bagPut (c, s.snd, (↑s.fst : Int))).fst ∧ Easy s.snd ∧ cnd
  ((countW (bagPut (c, s.snd, (↑s.fst : Int))).fst != countW s.snd) == false) (cnd ((↑(List.length (bagPut (c, s.snd, (↑s.fst : Int))).fst.hold) : Int) != (0 : Int)) (K
  (AVal.bool false)) (∃ (s' : Nat × Wk), RoomInv c s'.fst s'.snd ∧ (20 : Nat) - s'.fst < (20 : Nat) - s.fst ∧ (EqA (AVal.int IntKind.i64 (IntKind.wrap IntKind.i64 ((↑s.fst
  : Int) + (1 : Int)))) (AVal.int IntKind.i64 (↑s'.fst : Int)) ∧ True) ∧ (EqR (Res.cells (38 : Nat) [AVal.int IntKind.i64 c.w, AVal.int IntKind.i64 c.s, AVal.int
  IntKind.i64 c.b, AVal.int IntKind.i64 c.o, AVal.int IntKind.i64 c.e, AVal.int IntKind.i64 c.r, AVal.int IntKind.i64 c.a, AVal.int IntKind.u64 c.l]) (Res.cells (38 : Nat)
  [AVal.int IntKind.i64 c.w, AVal.int IntKind.i64 c.s, AVal.int IntKind.i64 c.b, AVal.int IntKind.i64 c.o, AVal.int IntKind.i64 c.e, AVal.int IntKind.i64 c.r, AVal.int
  IntKind.i64 c.a, AVal.int IntKind.u64 c.l]) ∧ (True ∧ EqA (AVal.int IntKind.i64 (bagPut (c, s.snd, (↑s.fst : Int))).fst.line) (AVal.int IntKind.i64 s'.snd.line) ∧ EqA
  (AVal.int IntKind.i64 (bagPut (c, s.snd, (↑s.fst : Int))).fst.op.k) (AVal.int IntKind.i64 s'.snd.op.k) ∧ EqA (AVal.int IntKind.u64 (bagPut (c, s.snd, (↑s.fst :
  Int))).fst.op.t) (AVal.int IntKind.u64 s'.snd.op.t) ∧ EqA (AVal.int IntKind.u64 (bagPut (c, s.snd, (↑s.fst : Int))).fst.op.x) (AVal.int IntKind.u64 s'.snd.op.x) ∧ EqA
  (AVal.int IntKind.i64 (bagPut (c, s.snd, (↑s.fst : Int))).fst.op.s) (AVal.int IntKind.i64 s'.snd.op.s) ∧ EqA (AVal.bool (bagPut (c, s.snd, (↑s.fst : Int))).fst.op.u)
  (AVal.bool s'.snd.op.u) ∧ EqA (AVal.int IntKind.i64 (bagPut (c, s.snd, (↑s.fst : Int))).fst.op.b) (AVal.int IntKind.i64 s'.snd.op.b) ∧ EqA (AVal.int IntKind.i64 (bagPut
  (c, s.snd, (↑s.fst : Int))).fst.op.n) (AVal.int IntKind.i64 s'.snd.op.n) ∧ EqA (AVal.bool (bagPut (c, s.snd, (↑s.fst : Int))).fst.pin) (AVal.bool s'.snd.pin) ∧ EqA
  (AVal.int IntKind.u64 (bagPut (c, s.snd, (↑s.fst : Int))).fst.e) (AVal.int IntKind.u64 s'.snd.e) ∧ EqA (AVal.list (3 : Nat) (bagPut (c, s.snd, (↑s.fst : Int))).fst.rack)
  (AVal.list (3 : Nat) s'.snd.rack) ∧ EqA (AVal.int IntKind.u64 (bagPut (c, s.snd, (↑s.fst : Int))).fst.t0) (AVal.int IntKind.u64 s'.snd.t0) ∧ EqA (AVal.list (3 : Nat)
  (bagPut (c, s.snd, (↑s.fst : Int))).fst.l0) (AVal.list (3 : Nat) s'.snd.l0) ∧ EqA (AVal.int IntKind.u64 (bagPut (c, s.snd, (↑s.fst : Int))).fst.t1) (AVal.int IntKind.u64
  s'.snd.t1) ∧ EqA (AVal.list (3 : Nat) (bagPut (c, s.snd, (↑s.fst : Int))).fst.l1) (AVal.list (3 : Nat) s'.snd.l1) ∧ EqA (AVal.int IntKind.u64 (bagPut (c, s.snd, (↑s.fst :
  Int))).fst.t2) (AVal.int IntKind.u64 s'.snd.t2) ∧ EqA (AVal.list (3 : Nat) (bagPut (c, s.snd, (↑s.fst : Int))).fst.l2) (AVal.list (3 : Nat) s'.snd.l2) ∧ EqA (AVal.list (3
  : Nat) (bagPut (c, s.snd, (↑s.fst : Int))).fst.hold) (AVal.list (3 : Nat) s'.snd.hold) ∧ EqA (AVal.int IntKind.i64 (bagPut (c, s.snd, (↑s.fst : Int))).fst.b) (AVal.int
  IntKind.i64 s'.snd.b) ∧ EqA (AVal.int IntKind.i64 (bagPut (c, s.snd, (↑s.fst : Int))).fst.k) (AVal.int IntKind.i64 s'.snd.k) ∧ EqA (AVal.int IntKind.i64 (bagPut (c,
  s.snd, (↑s.fst : Int))).fst.i) (AVal.int IntKind.i64 s'.snd.i) ∧ EqA (AVal.int IntKind.i64 (bagPut (c, s.snd, (↑s.fst : Int))).fst.c) (AVal.int IntKind.i64 s'.snd.c) ∧
  EqA (AVal.int IntKind.i64 (bagPut (c, s.snd, (↑s.fst : Int))).fst.bor) (AVal.int IntKind.i64 s'.snd.bor) ∧ EqA (AVal.int IntKind.u64 (bagPut (c, s.snd, (↑s.fst :
  Int))).fst.h) (AVal.int IntKind.u64 s'.snd.h) ∧ EqA (AVal.int IntKind.u64 (bagPut (c, s.snd, (↑s.fst : Int))).fst.n) (AVal.int IntKind.u64 s'.snd.n) ∧ EqA (AVal.int
  IntKind.u64 (bagPut (c, s.snd, (↑s.fst : Int))).fst.v) (AVal.int IntKind.u64 s'.snd.v) ∧ EqA (AVal.int IntKind.u64 (bagPut (c, s.snd, (↑s.fst : Int))).fst.u) (AVal.int
  IntKind.u64 s'.snd.u) ∧ EqA (AVal.int IntKind.u64 (bagPut (c, s.snd, (↑s.fst : Int))).fst.g) (AVal.int IntKind.u64 s'.snd.g) ∧ EqA (AVal.int IntKind.i64 (bagPut (c,
  s.snd, (↑s.fst : Int))).fst.j) (AVal.int IntKind.i64 s'.snd.j) ∧ EqA (AVal.list (22 : Nat) (bagPut (c, s.snd, (↑s.fst : Int))).fst.read) (AVal.list (22 : Nat)
  s'.snd.read) ∧ EqA (AVal.int IntKind.u64 (bagPut (c, s.snd, (↑s.fst : Int))).fst.t) (AVal.int IntKind.u64 s'.snd.t) ∧ EqA (AVal.int IntKind.i64 (bagPut (c, s.snd, (↑s.fst
  : Int))).fst.ret) (AVal.int IntKind.i64 s'.snd.ret) ∧ EqA (AVal.bool (bagPut (c, s.snd, (↑s.fst : Int))).fst.give) (AVal.bool s'.snd.give) ∧ True) ∧ True) ∧ True)) (K
  (AVal.bool false))) (cnd ((↑(List.length (bagPut (c, s.snd, (↑s.fst : Int))).fst.hold) : Int) != (0 : Int)) (K (AVal.bool false)) (∃ (s' : Nat × Wk), RoomInv c s'.fst
  s'.snd ∧ (20 : Nat) - s'.fst < (20 : Nat) - s.fst ∧ (EqA (AVal.int IntKind.i64 (IntKind.wrap IntKind.i64 ((↑s.fst : Int) + (1 : Int)))) (AVal.int IntKind.i64 (↑s'.fst :
  Int)) ∧ True) ∧ (EqR (Res.cells (38 : Nat) [AVal.int IntKind.i64 c.w, AVal.int IntKind.i64 c.s, AVal.int IntKind.i64 c.b, AVal.int IntKind.i64 c.o, AVal.int IntKind.i64
  c.e, AVal.int IntKind.i64 c.r, AVal.int IntKind.i64 c.a, AVal.int IntKind.u64 c.l]) (Res.cells (38 : Nat) [AVal.int IntKind.i64 c.w, AVal.int IntKind.i64 c.s, AVal.int
  IntKind.i64 c.b, AVal.int IntKind.i64 c.o, AVal.int IntKind.i64 c.e, AVal.int IntKind.i64 c.r, AVal.int IntKind.i64 c.a, AVal.int IntKind.u64 c.l]) ∧ (True ∧ EqA
  (AVal.int IntKind.i64 (bagPut (c, s.snd, (↑s.fst : Int))).fst.line) (AVal.int IntKind.i64 s'.snd.line) ∧ EqA (AVal.int IntKind.i64 (bagPut (c, s.snd, (↑s.fst :
  Int))).fst.op.k) (AVal.int IntKind.i64 s'.snd.op.k) ∧ EqA (AVal.int IntKind.u64 (bagPut (c, s.snd, (↑s.fst : Int))).fst.op.t) (AVal.int IntKind.u64 s'.snd.op.t) ∧ EqA
  (AVal.int IntKind.u64 (bagPut (c, s.snd, (↑s.fst : Int))).fst.op.x) (AVal.int IntKind.u64 s'.snd.op.x) ∧ EqA (AVal.int IntKind.i64 (bagPut (c, s.snd, (↑s.fst :
  Int))).fst.op.s) (AVal.int IntKind.i64 s'.snd.op.s) ∧ EqA (AVal.bool (bagPut (c, s.snd, (↑s.fst : Int))).fst.op.u) (AVal.bool s'.snd.op.u) ∧ EqA (AVal.int IntKind.i64
  (bagPut (c, s.snd, (↑s.fst : Int))).fst.op.b) (AVal.int IntKind.i64 s'.snd.op.b) ∧ EqA (AVal.int IntKind.i64 (bagPut (c, s.snd, (↑s.fst : Int))).fst.op.n) (AVal.int
  IntKind.i64 s'.snd.op.n) ∧ EqA (AVal.bool (bagPut (c, s.snd, (↑s.fst : Int))).fst.pin) (AVal.bool s'.snd.pin) ∧ EqA (AVal.int IntKind.u64 (bagPut (c, s.snd, (↑s.fst :
  Int))).fst.e) (AVal.int IntKind.u64 s'.snd.e) ∧ EqA (AVal.list (3 : Nat) (bagPut (c, s.snd, (↑s.fst : Int))).fst.rack) (AVal.list (3 : Nat) s'.snd.rack) ∧ EqA (AVal.int
  IntKind.u64 (bagPut (c, s.snd, (↑s.fst : Int))).fst.t0) (AVal.int IntKind.u64 s'.snd.t0) ∧ EqA (AVal.list (3 : Nat) (bagPut (c, s.snd, (↑s.fst : Int))).fst.l0) (AVal.list
  (3 : Nat) s'.snd.l0) ∧ EqA (AVal.int IntKind.u64 (bagPut (c, s.snd, (↑s.fst : Int))).fst.t1) (AVal.int IntKind.u64 s'.snd.t1) ∧ EqA (AVal.list (3 : Nat) (bagPut (c,
  s.snd, (↑s.fst : Int))).fst.l1) (AVal.list (3 : Nat) s'.snd.l1) ∧ EqA (AVal.int IntKind.u64 (bagPut (c, s.snd, (↑s.fst : Int))).fst.t2) (AVal.int IntKind.u64 s'.snd.t2) ∧
  EqA (AVal.list (3 : Nat) (bagPut (c, s.snd, (↑s.fst : Int))).fst.l2) (AVal.list (3 : Nat) s'.snd.l2) ∧ EqA (AVal.list (3 : Nat) (bagPut (c, s.snd, (↑s.fst :
  Int))).fst.hold) (AVal.list (3 : Nat) s'.snd.hold) ∧ EqA (AVal.int IntKind.i64 (bagPut (c, s.snd, (↑s.fst : Int))).fst.b) (AVal.int IntKind.i64 s'.snd.b) ∧ EqA (AVal.int
  IntKind.i64 (bagPut (c, s.snd, (↑s.fst : Int))).fst.k) (AVal.int IntKind.i64 s'.snd.k) ∧ EqA (AVal.int IntKind.i64 (bagPut (c, s.snd, (↑s.fst : Int))).fst.i) (AVal.int
  IntKind.i64 s'.snd.i) ∧ EqA (AVal.int IntKind.i64 (bagPut (c, s.snd, (↑s.fst : Int))).fst.c) (AVal.int IntKind.i64 s'.snd.c) ∧ EqA (AVal.int IntKind.i64 (bagPut (c,
  s.snd, (↑s.fst : Int))).fst.bor) (AVal.int IntKind.i64 s'.snd.bor) ∧ EqA (AVal.int IntKind.u64 (bagPut (c, s.snd, (↑s.fst : Int))).fst.h) (AVal.int IntKind.u64 s'.snd.h)
  ∧ EqA (AVal.int IntKind.u64 (bagPut (c, s.snd, (↑s.fst : Int))).fst.n) (AVal.int IntKind.u64 s'.snd.n) ∧ EqA (AVal.int IntKind.u64 (bagPut (c, s.snd, (↑s.fst :
  Int))).fst.v) (AVal.int IntKind.u64 s'.snd.v) ∧ EqA (AVal.int IntKind.u64 (bagPut (c, s.snd, (↑s.fst : Int))).fst.u) (AVal.int IntKind.u64 s'.snd.u) ∧ EqA (AVal.int
  IntKind.u64 (bagPut (c, s.snd, (↑s.fst : Int))).fst.g) (AVal.int IntKind.u64 s'.snd.g) ∧ EqA (AVal.int IntKind.i64 (bagPut (c, s.snd, (↑s.fst : Int))).fst.j) (AVal.int
  IntKind.i64 s'.snd.j) ∧ EqA (AVal.list (22 : Nat) (bagPut (c, s.snd, (↑s.fst : Int))).fst.read) (AVal.list (22 : Nat) s'.snd.read) ∧ EqA (AVal.int IntKind.u64 (bagPut (c,
  s.snd, (↑s.fst : Int))).fst.t) (AVal.int IntKind.u64 s'.snd.t) ∧ EqA (AVal.int IntKind.i64 (bagPut (c, s.snd, (↑s.fst : Int))).fst.ret) (AVal.int IntKind.i64 s'.snd.ret)
  ∧ EqA (AVal.bool (bagPut (c, s.snd, (↑s.fst : Int))).fst.give) (AVal.bool s'.snd.give) ∧ True) ∧ True) ∧ True))) False) (cnd ((!(bagPut (c, s.snd, (↑s.fst : Int))).snd)
  == true) (Easy (bagPut (c, s.snd, (↑s.fst : Int))).fst ∧ Easy s.snd ∧ cnd ((countW (bagPut (c, s.snd, (↑s.fst : Int))).fst != countW s.snd) == false) (cnd ((↑(List.length
  (bagPut (c, s.snd, (↑s.fst : Int))).fst.hold) : Int) != (0 : Int)) (K (AVal.bool false)) (∃ (s' : Nat × Wk), RoomInv c s'.fst s'.snd ∧ (20 : Nat) - s'.fst < (20 : Nat) -
  s.fst ∧ (EqA (AVal.int IntKind.i64 (IntKind.wrap IntKind.i64 ((↑s.fst : Int) + (1 : Int)))) (AVal.int IntKind.i64 (↑s'.fst : Int)) ∧ True) ∧ (EqR (Res.cells (38 : Nat)
  [AVal.int IntKind.i64 c.w, AVal.int IntKind.i64 c.s, AVal.int IntKind.i64 c.b, AVal.int IntKind.i64 c.o, AVal.int IntKind.i64 c.e, AVal.int IntKind.i64 c.r, AVal.int
  IntKind.i64 c.a, AVal.int IntKind.u64 c.l]) (Res.cells (38 : Nat) [AVal.int IntKind.i64 c.w, AVal.int IntKind.i64 c.s, AVal.int IntKind.i64 c.b, AVal.int IntKind.i64 c.o,
  AVal.int IntKind.i64 c.e, AVal.int IntKind.i64 c.r, AVal.int IntKind.i64 c.a, AVal.int IntKind.u64 c.l]) ∧ (True ∧ EqA (AVal.int IntKind.i64 (bagPut (c, s.snd, (↑s.fst :
  Int))).fst.line) (AVal.int IntKind.i64 s'.snd.line) ∧ EqA (AVal.int IntKind.i64 (bagPut (c, s.snd, (↑s.fst : Int))).fst.op.k) (AVal.int IntKind.i64 s'.snd.op.k) ∧ EqA
  (AVal.int IntKind.u64 (bagPut (c, s.snd, (↑s.fst : Int))).fst.op.t) (AVal.int IntKind.u64 s'.snd.op.t) ∧ EqA (AVal.int IntKind.u64 (bagPut (c, s.snd, (↑s.fst :
  Int))).fst.op.x) (AVal.int IntKind.u64 s'.snd.op.x) ∧ EqA (AVal.int IntKind.i64 (bagPut (c, s.snd, (↑s.fst : Int))).fst.op.s) (AVal.int IntKind.i64 s'.snd.op.s) ∧ EqA
  (AVal.bool (bagPut (c, s.snd, (↑s.fst : Int))).fst.op.u) (AVal.bool s'.snd.op.u) ∧ EqA (AVal.int IntKind.i64 (bagPut (c, s.snd, (↑s.fst : Int))).fst.op.b) (AVal.int
  IntKind.i64 s'.snd.op.b) ∧ EqA (AVal.int IntKind.i64 (bagPut (c, s.snd, (↑s.fst : Int))).fst.op.n) (AVal.int IntKind.i64 s'.snd.op.n) ∧ EqA (AVal.bool (bagPut (c, s.snd,
  (↑s.fst : Int))).fst.pin) (AVal.bool s'.snd.pin) ∧ EqA (AVal.int IntKind.u64 (bagPut (c, s.snd, (↑s.fst : Int))).fst.e) (AVal.int IntKind.u64 s'.snd.e) ∧ EqA (AVal.list
  (3 : Nat) (bagPut (c, s.snd, (↑s.fst : Int))).fst.rack) (AVal.list (3 : Nat) s'.snd.rack) ∧ EqA (AVal.int IntKind.u64 (bagPut (c, s.snd, (↑s.fst : Int))).fst.t0)
  (AVal.int IntKind.u64 s'.snd.t0) ∧ EqA (AVal.list (3 : Nat) (bagPut (c, s.snd, (↑s.fst : Int))).fst.l0) (AVal.list (3 : Nat) s'.snd.l0) ∧ EqA (AVal.int IntKind.u64
  (bagPut (c, s.snd, (↑s.fst : Int))).fst.t1) (AVal.int IntKind.u64 s'.snd.t1) ∧ EqA (AVal.list (3 : Nat) (bagPut (c, s.snd, (↑s.fst : Int))).fst.l1) (AVal.list (3 : Nat)
  s'.snd.l1) ∧ EqA (AVal.int IntKind.u64 (bagPut (c, s.snd, (↑s.fst : Int))).fst.t2) (AVal.int IntKind.u64 s'.snd.t2) ∧ EqA (AVal.list (3 : Nat) (bagPut (c, s.snd, (↑s.fst
  : Int))).fst.l2) (AVal.list (3 : Nat) s'.snd.l2) ∧ EqA (AVal.list (3 : Nat) (bagPut (c, s.snd, (↑s.fst : Int))).fst.hold) (AVal.list (3 : Nat) s'.snd.hold) ∧ EqA
  (AVal.int IntKind.i64 (bagPut (c, s.snd, (↑s.fst : Int))).fst.b) (AVal.int IntKind.i64 s'.snd.b) ∧ EqA (AVal.int IntKind.i64 (bagPut (c, s.snd, (↑s.fst : Int))).fst.k)
  (AVal.int IntKind.i64 s'.snd.k) ∧ EqA (AVal.int IntKind.i64 (bagPut (c, s.snd, (↑s.fst : Int))).fst.i) (AVal.int IntKind.i64 s'.snd.i) ∧ EqA (AVal.int IntKind.i64 (bagPut
  (c, s.snd, (↑s.fst : Int))).fst.c) (AVal.int IntKind.i64 s'.snd.c) ∧ EqA (AVal.int IntKind.i64 (bagPut (c, s.snd, (↑s.fst : Int))).fst.bor) (AVal.int IntKind.i64
  s'.snd.bor) ∧ EqA (AVal.int IntKind.u64 (bagPut (c, s.snd, (↑s.fst : Int))).fst.h) (AVal.int IntKind.u64 s'.snd.h) ∧ EqA (AVal.int IntKind.u64 (bagPut (c, s.snd, (↑s.fst
  : Int))).fst.n) (AVal.int IntKind.u64 s'.snd.n) ∧ EqA (AVal.int IntKind.u64 (bagPut (c, s.snd, (↑s.fst : Int))).fst.v) (AVal.int IntKind.u64 s'.snd.v) ∧ EqA (AVal.int
  IntKind.u64 (bagPut (c, s.snd, (↑s.fst : Int))).fst.u) (AVal.int IntKind.u64 s'.snd.u) ∧ EqA (AVal.int IntKind.u64 (bagPut (c, s.snd, (↑s.fst : Int))).fst.g) (AVal.int
  IntKind.u64 s'.snd.g) ∧ EqA (AVal.int IntKind.i64 (bagPut (c, s.snd, (↑s.fst : Int))).fst.j) (AVal.int IntKind.i64 s'.snd.j) ∧ EqA (AVal.list (22 : Nat) (bagPut (c,
  s.snd, (↑s.fst : Int))).fst.read) (AVal.list (22 : Nat) s'.snd.read) ∧ EqA (AVal.int IntKind.u64 (bagPut (c, s.snd, (↑s.fst : Int))).fst.t) (AVal.int IntKind.u64
  s'.snd.t) ∧ EqA (AVal.int IntKind.i64 (bagPut (c, s.snd, (↑s.fst : Int))).fst.ret) (AVal.int IntKind.i64 s'.snd.ret) ∧ EqA (AVal.bool (bagPut (c, s.snd, (↑s.fst :
  Int))).fst.give) (AVal.bool s'.snd.give) ∧ True) ∧ True) ∧ True)) (K (AVal.bool false))) (cnd ((↑(List.length (bagPut (c, s.snd, (↑s.fst : Int))).fst.hold) : Int) != (0 :
  Int)) (K (AVal.bool false)) (∃ (s' : Nat × Wk), RoomInv c s'.fst s'.snd ∧ (20 : Nat) - s'.fst < (20 : Nat) - s.fst ∧ (EqA (AVal.int IntKind.i64 (IntKind.wrap IntKind.i64
  ((↑s.fst : Int) + (1 : Int)))) (AVal.int IntKind.i64 (↑s'.fst : Int)) ∧ True) ∧ (EqR (Res.cells (38 : Nat) [AVal.int IntKind.i64 c.w, AVal.int IntKind.i64 c.s, AVal.int
  IntKind.i64 c.b, AVal.int IntKind.i64 c.o, AVal.int IntKind.i64 c.e, AVal.int IntKind.i64 c.r, AVal.int IntKind.i64 c.a, AVal.int IntKind.u64 c.l]) (Res.cells (38 : Nat)
  [AVal.int IntKind.i64 c.w, AVal.int IntKind.i64 c.s, AVal.int IntKind.i64 c.b, AVal.int IntKind.i64 c.o, AVal.int IntKind.i64 c.e, AVal.int IntKind.i64 c.r, AVal.int
  IntKind.i64 c.a, AVal.int IntKind.u64 c.l]) ∧ (True ∧ EqA (AVal.int IntKind.i64 (bagPut (c, s.snd, (↑s.fst : Int))).fst.line) (AVal.int IntKind.i64 s'.snd.line) ∧ EqA
  (AVal.int IntKind.i64 (bagPut (c, s.snd, (↑s.fst : Int))).fst.op.k) (AVal.int IntKind.i64 s'.snd.op.k) ∧ EqA (AVal.int IntKind.u64 (bagPut (c, s.snd, (↑s.fst :
  Int))).fst.op.t) (AVal.int IntKind.u64 s'.snd.op.t) ∧ EqA (AVal.int IntKind.u64 (bagPut (c, s.snd, (↑s.fst : Int))).fst.op.x) (AVal.int IntKind.u64 s'.snd.op.x) ∧ EqA
  (AVal.int IntKind.i64 (bagPut (c, s.snd, (↑s.fst : Int))).fst.op.s) (AVal.int IntKind.i64 s'.snd.op.s) ∧ EqA (AVal.bool (bagPut (c, s.snd, (↑s.fst : Int))).fst.op.u)
  (AVal.bool s'.snd.op.u) ∧ EqA (AVal.int IntKind.i64 (bagPut (c, s.snd, (↑s.fst : Int))).fst.op.b) (AVal.int IntKind.i64 s'.snd.op.b) ∧ EqA (AVal.int IntKind.i64 (bagPut
  (c, s.snd, (↑s.fst : Int))).fst.op.n) (AVal.int IntKind.i64 s'.snd.op.n) ∧ EqA (AVal.bool (bagPut (c, s.snd, (↑s.fst : Int))).fst.pin) (AVal.bool s'.snd.pin) ∧ EqA
  (AVal.int IntKind.u64 (bagPut (c, s.snd, (↑s.fst : Int))).fst.e) (AVal.int IntKind.u64 s'.snd.e) ∧ EqA (AVal.list (3 : Nat) (bagPut (c, s.snd, (↑s.fst : Int))).fst.rack)
  (AVal.list (3 : Nat) s'.snd.rack) ∧ EqA (AVal.int IntKind.u64 (bagPut (c, s.snd, (↑s.fst : Int))).fst.t0) (AVal.int IntKind.u64 s'.snd.t0) ∧ EqA (AVal.list (3 : Nat)
  (bagPut (c, s.snd, (↑s.fst : Int))).fst.l0) (AVal.list (3 : Nat) s'.snd.l0) ∧ EqA (AVal.int IntKind.u64 (bagPut (c, s.snd, (↑s.fst : Int))).fst.t1) (AVal.int IntKind.u64
  s'.snd.t1) ∧ EqA (AVal.list (3 : Nat) (bagPut (c, s.snd, (↑s.fst : Int))).fst.l1) (AVal.list (3 : Nat) s'.snd.l1) ∧ EqA (AVal.int IntKind.u64 (bagPut (c, s.snd, (↑s.fst :
  Int))).fst.t2) (AVal.int IntKind.u64 s'.snd.t2) ∧ EqA (AVal.list (3 : Nat) (bagPut (c, s.snd, (↑s.fst : Int))).fst.l2) (AVal.list (3 : Nat) s'.snd.l2) ∧ EqA (AVal.list (3
  : Nat) (bagPut (c, s.snd, (↑s.fst : Int))).fst.hold) (AVal.list (3 : Nat) s'.snd.hold) ∧ EqA (AVal.int IntKind.i64 (bagPut (c, s.snd, (↑s.fst : Int))).fst.b) (AVal.int
  IntKind.i64 s'.snd.b) ∧ EqA (AVal.int IntKind.i64 (bagPut (c, s.snd, (↑s.fst : Int))).fst.k) (AVal.int IntKind.i64 s'.snd.k) ∧ EqA (AVal.int IntKind.i64 (bagPut (c,
  s.snd, (↑s.fst : Int))).fst.i) (AVal.int IntKind.i64 s'.snd.i) ∧ EqA (AVal.int IntKind.i64 (bagPut (c, s.snd, (↑s.fst : Int))).fst.c) (AVal.int IntKind.i64 s'.snd.c) ∧
  EqA (AVal.int IntKind.i64 (bagPut (c, s.snd, (↑s.fst : Int))).fst.bor) (AVal.int IntKind.i64 s'.snd.bor) ∧ EqA (AVal.int IntKind.u64 (bagPut (c, s.snd, (↑s.fst :
  Int))).fst.h) (AVal.int IntKind.u64 s'.snd.h) ∧ EqA (AVal.int IntKind.u64 (bagPut (c, s.snd, (↑s.fst : Int))).fst.n) (AVal.int IntKind.u64 s'.snd.n) ∧ EqA (AVal.int
  IntKind.u64 (bagPut (c, s.snd, (↑s.fst : Int))).fst.v) (AVal.int IntKind.u64 s'.snd.v) ∧ EqA (AVal.int IntKind.u64 (bagPut (c, s.snd, (↑s.fst : Int))).fst.u) (AVal.int
  IntKind.u64 s'.snd.u) ∧ EqA (AVal.int IntKind.u64 (bagPut (c, s.snd, (↑s.fst : Int))).fst.g) (AVal.int IntKind.u64 s'.snd.g) ∧ EqA (AVal.int IntKind.i64 (bagPut (c,
  s.snd, (↑s.fst : Int))).fst.j) (AVal.int IntKind.i64 s'.snd.j) ∧ EqA (AVal.list (22 : Nat) (bagPut (c, s.snd, (↑s.fst : Int))).fst.read) (AVal.list (22 : Nat)
  s'.snd.read) ∧ EqA (AVal.int IntKind.u64 (bagPut (c, s.snd, (↑s.fst : Int))).fst.t) (AVal.int IntKind.u64 s'.snd.t) ∧ EqA (AVal.int IntKind.i64 (bagPut (c, s.snd, (↑s.fst
  : Int))).fst.ret) (AVal.int IntKind.i64 s'.snd.ret) ∧ EqA (AVal.bool (bagPut (c, s.snd, (↑s.fst : Int))).fst.give) (AVal.bool s'.snd.give) ∧ True) ∧ True) ∧ True))))
  False) (K (AVal.bool true))) := by kernel_rfl

end Go.Proofs.Ytggaecdhgbdilaa
