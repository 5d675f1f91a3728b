/- What RackSame comes to, by the executor; printed by a program of mine. No condition. -/
import Derived.Test.YtggaecdhgbdilaaSameSpec
set_option linter.unusedVariables false
set_option maxRecDepth 100000
set_option maxHeartbeats 4000000
namespace Go.Proofs.Ytggaecdhgbdilaa
open Go Go.Ax

theorem vc_law3 (K : AVal El → Prop) (x y : Wk) : aexecF cnd cx Γ6 (specSame3 x) 200 Try.f3 (codeOf Try.f3) (aWW.enc (x, y)) [] (fun y _ => K y) = ( True ∧ True ∧ cnd
  (greatW x == false) (True ∧ cnd (greatW y) (K (AVal.bool true)) (Bear x ∧ Bear x ∧ cnd ((!sameW x y == sameW x y) == false) (Bear x ∧ cnd (!sameW x x) (K (AVal.bool
  false)) (Bear x ∧ Bear x ∧ Bear x ∧ cnd (!sameW x x) (K (AVal.bool false)) ((∃ (s0 : Nat × List Int), (s0.fst ≤ List.length x.rack ∧ List.length s0.snd = List.length
  x.rack) ∧ (EqA (AVal.int IntKind.i64 (0 : Int)) (AVal.int IntKind.i64 (↑s0.fst : Int)) ∧ True) ∧ ((True ∧ EqA (AVal.int IntKind.i64 x.line) (AVal.int IntKind.i64 x.line)
  ∧ EqA (AVal.int IntKind.i64 x.op.k) (AVal.int IntKind.i64 x.op.k) ∧ EqA (AVal.int IntKind.u64 x.op.t) (AVal.int IntKind.u64 x.op.t) ∧ EqA (AVal.int IntKind.u64 x.op.x)
  (AVal.int IntKind.u64 x.op.x) ∧ EqA (AVal.int IntKind.i64 x.op.s) (AVal.int IntKind.i64 x.op.s) ∧ EqA (AVal.bool x.op.u) (AVal.bool x.op.u) ∧ EqA (AVal.int IntKind.i64
  x.op.b) (AVal.int IntKind.i64 x.op.b) ∧ EqA (AVal.int IntKind.i64 x.op.n) (AVal.int IntKind.i64 x.op.n) ∧ EqA (AVal.bool x.pin) (AVal.bool x.pin) ∧ EqA (AVal.int
  IntKind.u64 x.e) (AVal.int IntKind.u64 x.e) ∧ EqA (AVal.list (3 : Nat) x.rack) (AVal.list (3 : Nat) x.rack) ∧ EqA (AVal.int IntKind.u64 x.t0) (AVal.int IntKind.u64 x.t0)
  ∧ EqA (AVal.list (3 : Nat) x.l0) (AVal.list (3 : Nat) x.l0) ∧ EqA (AVal.int IntKind.u64 x.t1) (AVal.int IntKind.u64 x.t1) ∧ EqA (AVal.list (3 : Nat) x.l1) (AVal.list (3 :
  Nat) x.l1) ∧ EqA (AVal.int IntKind.u64 x.t2) (AVal.int IntKind.u64 x.t2) ∧ EqA (AVal.list (3 : Nat) x.l2) (AVal.list (3 : Nat) x.l2) ∧ EqA (AVal.list (3 : Nat) x.hold)
  (AVal.list (3 : Nat) x.hold) ∧ EqA (AVal.int IntKind.i64 x.b) (AVal.int IntKind.i64 x.b) ∧ EqA (AVal.int IntKind.i64 x.k) (AVal.int IntKind.i64 x.k) ∧ EqA (AVal.int
  IntKind.i64 x.i) (AVal.int IntKind.i64 x.i) ∧ EqA (AVal.int IntKind.i64 x.c) (AVal.int IntKind.i64 x.c) ∧ EqA (AVal.int IntKind.i64 x.bor) (AVal.int IntKind.i64 x.bor) ∧
  EqA (AVal.int IntKind.u64 x.h) (AVal.int IntKind.u64 x.h) ∧ EqA (AVal.int IntKind.u64 x.n) (AVal.int IntKind.u64 x.n) ∧ EqA (AVal.int IntKind.u64 x.v) (AVal.int
  IntKind.u64 x.v) ∧ EqA (AVal.int IntKind.u64 x.u) (AVal.int IntKind.u64 x.u) ∧ EqA (AVal.int IntKind.u64 x.g) (AVal.int IntKind.u64 x.g) ∧ EqA (AVal.int IntKind.i64 x.j)
  (AVal.int IntKind.i64 x.j) ∧ EqA (AVal.list (22 : Nat) x.read) (AVal.list (22 : Nat) x.read) ∧ EqA (AVal.int IntKind.u64 x.t) (AVal.int IntKind.u64 x.t) ∧ EqA (AVal.int
  IntKind.i64 x.ret) (AVal.int IntKind.i64 x.ret) ∧ EqA (AVal.bool x.give) (AVal.bool x.give) ∧ True) ∧ (True ∧ EqA (AVal.int IntKind.i64 x.line) (AVal.int IntKind.i64
  x.line) ∧ EqA (AVal.int IntKind.i64 x.op.k) (AVal.int IntKind.i64 x.op.k) ∧ EqA (AVal.int IntKind.u64 x.op.t) (AVal.int IntKind.u64 x.op.t) ∧ EqA (AVal.int IntKind.u64
  x.op.x) (AVal.int IntKind.u64 x.op.x) ∧ EqA (AVal.int IntKind.i64 x.op.s) (AVal.int IntKind.i64 x.op.s) ∧ EqA (AVal.bool x.op.u) (AVal.bool x.op.u) ∧ EqA (AVal.int
  IntKind.i64 x.op.b) (AVal.int IntKind.i64 x.op.b) ∧ EqA (AVal.int IntKind.i64 x.op.n) (AVal.int IntKind.i64 x.op.n) ∧ EqA (AVal.bool x.pin) (AVal.bool x.pin) ∧ EqA
  (AVal.int IntKind.u64 x.e) (AVal.int IntKind.u64 x.e) ∧ EqA (AVal.list (3 : Nat) x.rack) (AVal.list (3 : Nat) x.rack) ∧ EqA (AVal.int IntKind.u64 x.t0) (AVal.int
  IntKind.u64 x.t0) ∧ EqA (AVal.list (3 : Nat) x.l0) (AVal.list (3 : Nat) x.l0) ∧ EqA (AVal.int IntKind.u64 x.t1) (AVal.int IntKind.u64 x.t1) ∧ EqA (AVal.list (3 : Nat)
  x.l1) (AVal.list (3 : Nat) x.l1) ∧ EqA (AVal.int IntKind.u64 x.t2) (AVal.int IntKind.u64 x.t2) ∧ EqA (AVal.list (3 : Nat) x.l2) (AVal.list (3 : Nat) x.l2) ∧ EqA
  (AVal.list (3 : Nat) x.hold) (AVal.list (3 : Nat) x.hold) ∧ EqA (AVal.int IntKind.i64 x.b) (AVal.int IntKind.i64 x.b) ∧ EqA (AVal.int IntKind.i64 x.k) (AVal.int
  IntKind.i64 x.k) ∧ EqA (AVal.int IntKind.i64 x.i) (AVal.int IntKind.i64 x.i) ∧ EqA (AVal.int IntKind.i64 x.c) (AVal.int IntKind.i64 x.c) ∧ EqA (AVal.int IntKind.i64
  x.bor) (AVal.int IntKind.i64 x.bor) ∧ EqA (AVal.int IntKind.u64 x.h) (AVal.int IntKind.u64 x.h) ∧ EqA (AVal.int IntKind.u64 x.n) (AVal.int IntKind.u64 x.n) ∧ EqA
  (AVal.int IntKind.u64 x.v) (AVal.int IntKind.u64 x.v) ∧ EqA (AVal.int IntKind.u64 x.u) (AVal.int IntKind.u64 x.u) ∧ EqA (AVal.int IntKind.u64 x.g) (AVal.int IntKind.u64
  x.g) ∧ EqA (AVal.int IntKind.i64 x.j) (AVal.int IntKind.i64 x.j) ∧ EqA (AVal.list (22 : Nat) x.read) (AVal.list (22 : Nat) x.read) ∧ EqA (AVal.int IntKind.u64 x.t)
  (AVal.int IntKind.u64 x.t) ∧ EqA (AVal.int IntKind.i64 x.ret) (AVal.int IntKind.i64 x.ret) ∧ EqA (AVal.bool x.give) (AVal.bool x.give) ∧ True) ∧ EqR (Res.vec (3 : Nat)
  x.rack) (Res.vec (3 : Nat) s0.snd) ∧ EqR (Res.vec (3 : Nat) x.l0) (Res.vec (3 : Nat) x.l0) ∧ EqR (Res.vec (3 : Nat) x.l1) (Res.vec (3 : Nat) x.l1) ∧ EqR (Res.vec (3 :
  Nat) x.l2) (Res.vec (3 : Nat) x.l2) ∧ EqR (Res.vec (3 : Nat) x.hold) (Res.vec (3 : Nat) x.hold) ∧ EqR (Res.vec (22 : Nat) x.read) (Res.vec (22 : Nat) x.read) ∧ EqR
  (Res.cells (32 : Nat) [AVal.int IntKind.i64 x.line, AVal.int IntKind.i64 x.op.k, AVal.int IntKind.u64 x.op.t, AVal.int IntKind.u64 x.op.x, AVal.int IntKind.i64 x.op.s,
  AVal.bool x.op.u, AVal.int IntKind.i64 x.op.b, AVal.int IntKind.i64 x.op.n, AVal.bool x.pin, AVal.int IntKind.u64 x.e, AVal.vec (3 : Nat), AVal.int IntKind.u64 x.t0,
  AVal.vec (4 : Nat), AVal.int IntKind.u64 x.t1, AVal.vec (5 : Nat), AVal.int IntKind.u64 x.t2, AVal.vec (6 : Nat), AVal.vec (7 : Nat), AVal.int IntKind.i64 x.b, AVal.int
  IntKind.i64 x.k, AVal.int IntKind.i64 x.i, AVal.int IntKind.i64 x.c, AVal.int IntKind.i64 x.bor, AVal.int IntKind.u64 x.h, AVal.int IntKind.u64 x.n, AVal.int IntKind.u64
  x.v, AVal.int IntKind.u64 x.u, AVal.int IntKind.u64 x.g, AVal.int IntKind.i64 x.j, AVal.vec (8 : Nat), AVal.int IntKind.u64 x.t, AVal.int IntKind.i64 x.ret, AVal.bool
  x.give]) (Res.cells (32 : Nat) [AVal.int IntKind.i64 x.line, AVal.int IntKind.i64 x.op.k, AVal.int IntKind.u64 x.op.t, AVal.int IntKind.u64 x.op.x, AVal.int IntKind.i64
  x.op.s, AVal.bool x.op.u, AVal.int IntKind.i64 x.op.b, AVal.int IntKind.i64 x.op.n, AVal.bool x.pin, AVal.int IntKind.u64 x.e, AVal.vec (3 : Nat), AVal.int IntKind.u64
  x.t0, AVal.vec (4 : Nat), AVal.int IntKind.u64 x.t1, AVal.vec (5 : Nat), AVal.int IntKind.u64 x.t2, AVal.vec (6 : Nat), AVal.vec (7 : Nat), AVal.int IntKind.i64 x.b,
  AVal.int IntKind.i64 x.k, AVal.int IntKind.i64 x.i, AVal.int IntKind.i64 x.c, AVal.int IntKind.i64 x.bor, AVal.int IntKind.u64 x.h, AVal.int IntKind.u64 x.n, AVal.int
  IntKind.u64 x.v, AVal.int IntKind.u64 x.u, AVal.int IntKind.u64 x.g, AVal.int IntKind.i64 x.j, AVal.vec (8 : Nat), AVal.int IntKind.u64 x.t, AVal.int IntKind.i64 x.ret,
  AVal.bool x.give]) ∧ True) ∧ True) ∧ ∀ (s : Nat × List Int), s.fst ≤ List.length x.rack ∧ List.length s.snd = List.length x.rack → cnd (decide ((↑s.fst : Int) <
  (↑(List.length s.snd) : Int))) (((0 : Int) ≤ (↑s.fst : Int) ∧ (↑s.fst : Int) < (↑(List.length s.snd) : Int)) ∧ Int.toNat (↑s.fst : Int) < List.length s.snd ∧ ((0 : Int) ≤
  (↑s.fst : Int) ∧ (↑s.fst : Int) < (↑(List.length s.snd) : Int)) ∧ Int.toNat (↑s.fst : Int) < List.length s.snd ∧ ∃ (s' : Nat × List Int), (s'.fst ≤ List.length x.rack ∧
  List.length s'.snd = List.length x.rack) ∧ List.length x.rack - s'.fst < List.length x.rack - s.fst ∧ (EqA (AVal.int IntKind.i64 (IntKind.wrap IntKind.i64 ((↑s.fst : Int)
  + (1 : Int)))) (AVal.int IntKind.i64 (↑s'.fst : Int)) ∧ True) ∧ ((True ∧ EqA (AVal.int IntKind.i64 x.line) (AVal.int IntKind.i64 x.line) ∧ EqA (AVal.int IntKind.i64
  x.op.k) (AVal.int IntKind.i64 x.op.k) ∧ EqA (AVal.int IntKind.u64 x.op.t) (AVal.int IntKind.u64 x.op.t) ∧ EqA (AVal.int IntKind.u64 x.op.x) (AVal.int IntKind.u64 x.op.x)
  ∧ EqA (AVal.int IntKind.i64 x.op.s) (AVal.int IntKind.i64 x.op.s) ∧ EqA (AVal.bool x.op.u) (AVal.bool x.op.u) ∧ EqA (AVal.int IntKind.i64 x.op.b) (AVal.int IntKind.i64
  x.op.b) ∧ EqA (AVal.int IntKind.i64 x.op.n) (AVal.int IntKind.i64 x.op.n) ∧ EqA (AVal.bool x.pin) (AVal.bool x.pin) ∧ EqA (AVal.int IntKind.u64 x.e) (AVal.int IntKind.u64
  x.e) ∧ EqA (AVal.list (3 : Nat) x.rack) (AVal.list (3 : Nat) x.rack) ∧ EqA (AVal.int IntKind.u64 x.t0) (AVal.int IntKind.u64 x.t0) ∧ EqA (AVal.list (3 : Nat) x.l0)
  (AVal.list (3 : Nat) x.l0) ∧ EqA (AVal.int IntKind.u64 x.t1) (AVal.int IntKind.u64 x.t1) ∧ EqA (AVal.list (3 : Nat) x.l1) (AVal.list (3 : Nat) x.l1) ∧ EqA (AVal.int
  IntKind.u64 x.t2) (AVal.int IntKind.u64 x.t2) ∧ EqA (AVal.list (3 : Nat) x.l2) (AVal.list (3 : Nat) x.l2) ∧ EqA (AVal.list (3 : Nat) x.hold) (AVal.list (3 : Nat) x.hold)
  ∧ EqA (AVal.int IntKind.i64 x.b) (AVal.int IntKind.i64 x.b) ∧ EqA (AVal.int IntKind.i64 x.k) (AVal.int IntKind.i64 x.k) ∧ EqA (AVal.int IntKind.i64 x.i) (AVal.int
  IntKind.i64 x.i) ∧ EqA (AVal.int IntKind.i64 x.c) (AVal.int IntKind.i64 x.c) ∧ EqA (AVal.int IntKind.i64 x.bor) (AVal.int IntKind.i64 x.bor) ∧ EqA (AVal.int IntKind.u64
  x.h) (AVal.int IntKind.u64 x.h) ∧ EqA (AVal.int IntKind.u64 x.n) (AVal.int IntKind.u64 x.n) ∧ EqA (AVal.int IntKind.u64 x.v) (AVal.int IntKind.u64 x.v) ∧ EqA (AVal.int
  IntKind.u64 x.u) (AVal.int IntKind.u64 x.u) ∧ EqA (AVal.int IntKind.u64 x.g) (AVal.int IntKind.u64 x.g) ∧ EqA (AVal.int IntKind.i64 x.j) (AVal.int IntKind.i64 x.j) ∧ EqA
  (AVal.list (22 : Nat) x.read) (AVal.list (22 : Nat) x.read) ∧ EqA (AVal.int IntKind.u64 x.t) (AVal.int IntKind.u64 x.t) ∧ EqA (AVal.int IntKind.i64 x.ret) (AVal.int
  IntKind.i64 x.ret) ∧ EqA (AVal.bool x.give) (AVal.bool x.give) ∧ True) ∧ (True ∧ EqA (AVal.int IntKind.i64 x.line) (AVal.int IntKind.i64 x.line) ∧ EqA (AVal.int
  IntKind.i64 x.op.k) (AVal.int IntKind.i64 x.op.k) ∧ EqA (AVal.int IntKind.u64 x.op.t) (AVal.int IntKind.u64 x.op.t) ∧ EqA (AVal.int IntKind.u64 x.op.x) (AVal.int
  IntKind.u64 x.op.x) ∧ EqA (AVal.int IntKind.i64 x.op.s) (AVal.int IntKind.i64 x.op.s) ∧ EqA (AVal.bool x.op.u) (AVal.bool x.op.u) ∧ EqA (AVal.int IntKind.i64 x.op.b)
  (AVal.int IntKind.i64 x.op.b) ∧ EqA (AVal.int IntKind.i64 x.op.n) (AVal.int IntKind.i64 x.op.n) ∧ EqA (AVal.bool x.pin) (AVal.bool x.pin) ∧ EqA (AVal.int IntKind.u64 x.e)
  (AVal.int IntKind.u64 x.e) ∧ EqA (AVal.list (3 : Nat) x.rack) (AVal.list (3 : Nat) x.rack) ∧ EqA (AVal.int IntKind.u64 x.t0) (AVal.int IntKind.u64 x.t0) ∧ EqA (AVal.list
  (3 : Nat) x.l0) (AVal.list (3 : Nat) x.l0) ∧ EqA (AVal.int IntKind.u64 x.t1) (AVal.int IntKind.u64 x.t1) ∧ EqA (AVal.list (3 : Nat) x.l1) (AVal.list (3 : Nat) x.l1) ∧ EqA
  (AVal.int IntKind.u64 x.t2) (AVal.int IntKind.u64 x.t2) ∧ EqA (AVal.list (3 : Nat) x.l2) (AVal.list (3 : Nat) x.l2) ∧ EqA (AVal.list (3 : Nat) x.hold) (AVal.list (3 :
  Nat) x.hold) ∧ EqA (AVal.int IntKind.i64 x.b) (AVal.int IntKind.i64 x.b) ∧ EqA (AVal.int IntKind.i64 x.k) (AVal.int IntKind.i64 x.k) ∧ EqA (AVal.int IntKind.i64 x.i)
  (AVal.int IntKind.i64 x.i) ∧ EqA (AVal.int IntKind.i64 x.c) (AVal.int IntKind.i64 x.c) ∧ EqA (AVal.int IntKind.i64 x.bor) (AVal.int IntKind.i64 x.bor) ∧ EqA (AVal.int
  IntKind.u64 x.h) (AVal.int IntKind.u64 x.h) ∧ EqA (AVal.int IntKind.u64 x.n) (AVal.int IntKind.u64 x.n) ∧ EqA (AVal.int IntKind.u64 x.v) (AVal.int IntKind.u64 x.v) ∧ EqA
  (AVal.int IntKind.u64 x.u) (AVal.int IntKind.u64 x.u) ∧ EqA (AVal.int IntKind.u64 x.g) (AVal.int IntKind.u64 x.g) ∧ EqA (AVal.int IntKind.i64 x.j) (AVal.int IntKind.i64
  x.j) ∧ EqA (AVal.list (22 : Nat) x.read) (AVal.list (22 : Nat) x.read) ∧ EqA (AVal.int IntKind.u64 x.t) (AVal.int IntKind.u64 x.t) ∧ EqA (AVal.int IntKind.i64 x.ret)
  (AVal.int IntKind.i64 x.ret) ∧ EqA (AVal.bool x.give) (AVal.bool x.give) ∧ True) ∧ EqR (Res.vec (3 : Nat) (List.set s.snd (Int.toNat (↑s.fst : Int)) (IntKind.wrap
  IntKind.i64 (List.getD s.snd (Int.toNat (↑s.fst : Int)) (0 : Int) + (1 : Int))))) (Res.vec (3 : Nat) s'.snd) ∧ EqR (Res.vec (3 : Nat) x.l0) (Res.vec (3 : Nat) x.l0) ∧ EqR
  (Res.vec (3 : Nat) x.l1) (Res.vec (3 : Nat) x.l1) ∧ EqR (Res.vec (3 : Nat) x.l2) (Res.vec (3 : Nat) x.l2) ∧ EqR (Res.vec (3 : Nat) x.hold) (Res.vec (3 : Nat) x.hold) ∧
  EqR (Res.vec (22 : Nat) x.read) (Res.vec (22 : Nat) x.read) ∧ EqR (Res.cells (32 : Nat) [AVal.int IntKind.i64 x.line, AVal.int IntKind.i64 x.op.k, AVal.int IntKind.u64
  x.op.t, AVal.int IntKind.u64 x.op.x, AVal.int IntKind.i64 x.op.s, AVal.bool x.op.u, AVal.int IntKind.i64 x.op.b, AVal.int IntKind.i64 x.op.n, AVal.bool x.pin, AVal.int
  IntKind.u64 x.e, AVal.vec (3 : Nat), AVal.int IntKind.u64 x.t0, AVal.vec (4 : Nat), AVal.int IntKind.u64 x.t1, AVal.vec (5 : Nat), AVal.int IntKind.u64 x.t2, AVal.vec (6
  : Nat), AVal.vec (7 : Nat), AVal.int IntKind.i64 x.b, AVal.int IntKind.i64 x.k, AVal.int IntKind.i64 x.i, AVal.int IntKind.i64 x.c, AVal.int IntKind.i64 x.bor, AVal.int
  IntKind.u64 x.h, AVal.int IntKind.u64 x.n, AVal.int IntKind.u64 x.v, AVal.int IntKind.u64 x.u, AVal.int IntKind.u64 x.g, AVal.int IntKind.i64 x.j, AVal.vec (8 : Nat),
  AVal.int IntKind.u64 x.t, AVal.int IntKind.i64 x.ret, AVal.bool x.give]) (Res.cells (32 : Nat) [AVal.int IntKind.i64 x.line, AVal.int IntKind.i64 x.op.k, AVal.int
  IntKind.u64 x.op.t, AVal.int IntKind.u64 x.op.x, AVal.int IntKind.i64 x.op.s, AVal.bool x.op.u, AVal.int IntKind.i64 x.op.b, AVal.int IntKind.i64 x.op.n, AVal.bool x.pin,
  AVal.int IntKind.u64 x.e, AVal.vec (3 : Nat), AVal.int IntKind.u64 x.t0, AVal.vec (4 : Nat), AVal.int IntKind.u64 x.t1, AVal.vec (5 : Nat), AVal.int IntKind.u64 x.t2,
  AVal.vec (6 : Nat), AVal.vec (7 : Nat), AVal.int IntKind.i64 x.b, AVal.int IntKind.i64 x.k, AVal.int IntKind.i64 x.i, AVal.int IntKind.i64 x.c, AVal.int IntKind.i64
  x.bor, AVal.int IntKind.u64 x.h, AVal.int IntKind.u64 x.n, AVal.int IntKind.u64 x.v, AVal.int IntKind.u64 x.u, AVal.int IntKind.u64 x.g, AVal.int IntKind.i64 x.j,
  AVal.vec (8 : Nat), AVal.int IntKind.u64 x.t, AVal.int IntKind.i64 x.ret, AVal.bool x.give]) ∧ True) ∧ True) ((∃ (s0 : Nat × List Int), (s0.fst ≤ List.length x.hold ∧
  List.length s0.snd = List.length x.hold) ∧ (EqA (AVal.int IntKind.i64 (0 : Int)) (AVal.int IntKind.i64 (↑s0.fst : Int)) ∧ True) ∧ ((True ∧ EqA (AVal.int IntKind.i64
  x.line) (AVal.int IntKind.i64 x.line) ∧ EqA (AVal.int IntKind.i64 x.op.k) (AVal.int IntKind.i64 x.op.k) ∧ EqA (AVal.int IntKind.u64 x.op.t) (AVal.int IntKind.u64 x.op.t)
  ∧ EqA (AVal.int IntKind.u64 x.op.x) (AVal.int IntKind.u64 x.op.x) ∧ EqA (AVal.int IntKind.i64 x.op.s) (AVal.int IntKind.i64 x.op.s) ∧ EqA (AVal.bool x.op.u) (AVal.bool
  x.op.u) ∧ EqA (AVal.int IntKind.i64 x.op.b) (AVal.int IntKind.i64 x.op.b) ∧ EqA (AVal.int IntKind.i64 x.op.n) (AVal.int IntKind.i64 x.op.n) ∧ EqA (AVal.bool x.pin)
  (AVal.bool x.pin) ∧ EqA (AVal.int IntKind.u64 x.e) (AVal.int IntKind.u64 x.e) ∧ EqA (AVal.list (3 : Nat) x.rack) (AVal.list (3 : Nat) x.rack) ∧ EqA (AVal.int IntKind.u64
  x.t0) (AVal.int IntKind.u64 x.t0) ∧ EqA (AVal.list (3 : Nat) x.l0) (AVal.list (3 : Nat) x.l0) ∧ EqA (AVal.int IntKind.u64 x.t1) (AVal.int IntKind.u64 x.t1) ∧ EqA
  (AVal.list (3 : Nat) x.l1) (AVal.list (3 : Nat) x.l1) ∧ EqA (AVal.int IntKind.u64 x.t2) (AVal.int IntKind.u64 x.t2) ∧ EqA (AVal.list (3 : Nat) x.l2) (AVal.list (3 : Nat)
  x.l2) ∧ EqA (AVal.list (3 : Nat) x.hold) (AVal.list (3 : Nat) x.hold) ∧ EqA (AVal.int IntKind.i64 x.b) (AVal.int IntKind.i64 x.b) ∧ EqA (AVal.int IntKind.i64 x.k)
  (AVal.int IntKind.i64 x.k) ∧ EqA (AVal.int IntKind.i64 x.i) (AVal.int IntKind.i64 x.i) ∧ EqA (AVal.int IntKind.i64 x.c) (AVal.int IntKind.i64 x.c) ∧ EqA (AVal.int
  IntKind.i64 x.bor) (AVal.int IntKind.i64 x.bor) ∧ EqA (AVal.int IntKind.u64 x.h) (AVal.int IntKind.u64 x.h) ∧ EqA (AVal.int IntKind.u64 x.n) (AVal.int IntKind.u64 x.n) ∧
  EqA (AVal.int IntKind.u64 x.v) (AVal.int IntKind.u64 x.v) ∧ EqA (AVal.int IntKind.u64 x.u) (AVal.int IntKind.u64 x.u) ∧ EqA (AVal.int IntKind.u64 x.g) (AVal.int
  IntKind.u64 x.g) ∧ EqA (AVal.int IntKind.i64 x.j) (AVal.int IntKind.i64 x.j) ∧ EqA (AVal.list (22 : Nat) x.read) (AVal.list (22 : Nat) x.read) ∧ EqA (AVal.int IntKind.u64
  x.t) (AVal.int IntKind.u64 x.t) ∧ EqA (AVal.int IntKind.i64 x.ret) (AVal.int IntKind.i64 x.ret) ∧ EqA (AVal.bool x.give) (AVal.bool x.give) ∧ True) ∧ (True ∧ EqA
  (AVal.int IntKind.i64 x.line) (AVal.int IntKind.i64 x.line) ∧ EqA (AVal.int IntKind.i64 x.op.k) (AVal.int IntKind.i64 x.op.k) ∧ EqA (AVal.int IntKind.u64 x.op.t)
  (AVal.int IntKind.u64 x.op.t) ∧ EqA (AVal.int IntKind.u64 x.op.x) (AVal.int IntKind.u64 x.op.x) ∧ EqA (AVal.int IntKind.i64 x.op.s) (AVal.int IntKind.i64 x.op.s) ∧ EqA
  (AVal.bool x.op.u) (AVal.bool x.op.u) ∧ EqA (AVal.int IntKind.i64 x.op.b) (AVal.int IntKind.i64 x.op.b) ∧ EqA (AVal.int IntKind.i64 x.op.n) (AVal.int IntKind.i64 x.op.n)
  ∧ EqA (AVal.bool x.pin) (AVal.bool x.pin) ∧ EqA (AVal.int IntKind.u64 x.e) (AVal.int IntKind.u64 x.e) ∧ EqA (AVal.list (3 : Nat) x.rack) (AVal.list (3 : Nat) x.rack) ∧
  EqA (AVal.int IntKind.u64 x.t0) (AVal.int IntKind.u64 x.t0) ∧ EqA (AVal.list (3 : Nat) x.l0) (AVal.list (3 : Nat) x.l0) ∧ EqA (AVal.int IntKind.u64 x.t1) (AVal.int
  IntKind.u64 x.t1) ∧ EqA (AVal.list (3 : Nat) x.l1) (AVal.list (3 : Nat) x.l1) ∧ EqA (AVal.int IntKind.u64 x.t2) (AVal.int IntKind.u64 x.t2) ∧ EqA (AVal.list (3 : Nat)
  x.l2) (AVal.list (3 : Nat) x.l2) ∧ EqA (AVal.list (3 : Nat) x.hold) (AVal.list (3 : Nat) x.hold) ∧ EqA (AVal.int IntKind.i64 x.b) (AVal.int IntKind.i64 x.b) ∧ EqA
  (AVal.int IntKind.i64 x.k) (AVal.int IntKind.i64 x.k) ∧ EqA (AVal.int IntKind.i64 x.i) (AVal.int IntKind.i64 x.i) ∧ EqA (AVal.int IntKind.i64 x.c) (AVal.int IntKind.i64
  x.c) ∧ EqA (AVal.int IntKind.i64 x.bor) (AVal.int IntKind.i64 x.bor) ∧ EqA (AVal.int IntKind.u64 x.h) (AVal.int IntKind.u64 x.h) ∧ EqA (AVal.int IntKind.u64 x.n)
  (AVal.int IntKind.u64 x.n) ∧ EqA (AVal.int IntKind.u64 x.v) (AVal.int IntKind.u64 x.v) ∧ EqA (AVal.int IntKind.u64 x.u) (AVal.int IntKind.u64 x.u) ∧ EqA (AVal.int
  IntKind.u64 x.g) (AVal.int IntKind.u64 x.g) ∧ EqA (AVal.int IntKind.i64 x.j) (AVal.int IntKind.i64 x.j) ∧ EqA (AVal.list (22 : Nat) x.read) (AVal.list (22 : Nat) x.read)
  ∧ EqA (AVal.int IntKind.u64 x.t) (AVal.int IntKind.u64 x.t) ∧ EqA (AVal.int IntKind.i64 x.ret) (AVal.int IntKind.i64 x.ret) ∧ EqA (AVal.bool x.give) (AVal.bool x.give) ∧
  True) ∧ EqR (Res.vec (3 : Nat) s.snd) (Res.vec (3 : Nat) s.snd) ∧ EqR (Res.vec (3 : Nat) x.l0) (Res.vec (3 : Nat) x.l0) ∧ EqR (Res.vec (3 : Nat) x.l1) (Res.vec (3 : Nat)
  x.l1) ∧ EqR (Res.vec (3 : Nat) x.l2) (Res.vec (3 : Nat) x.l2) ∧ EqR (Res.vec (3 : Nat) x.hold) (Res.vec (3 : Nat) s0.snd) ∧ EqR (Res.vec (22 : Nat) x.read) (Res.vec (22 :
  Nat) x.read) ∧ EqR (Res.cells (32 : Nat) [AVal.int IntKind.i64 x.line, AVal.int IntKind.i64 x.op.k, AVal.int IntKind.u64 x.op.t, AVal.int IntKind.u64 x.op.x, AVal.int
  IntKind.i64 x.op.s, AVal.bool x.op.u, AVal.int IntKind.i64 x.op.b, AVal.int IntKind.i64 x.op.n, AVal.bool x.pin, AVal.int IntKind.u64 x.e, AVal.vec (3 : Nat), AVal.int
  IntKind.u64 x.t0, AVal.vec (4 : Nat), AVal.int IntKind.u64 x.t1, AVal.vec (5 : Nat), AVal.int IntKind.u64 x.t2, AVal.vec (6 : Nat), AVal.vec (7 : Nat), AVal.int
  IntKind.i64 x.b, AVal.int IntKind.i64 x.k, AVal.int IntKind.i64 x.i, AVal.int IntKind.i64 x.c, AVal.int IntKind.i64 x.bor, AVal.int IntKind.u64 x.h, AVal.int IntKind.u64
  x.n, AVal.int IntKind.u64 x.v, AVal.int IntKind.u64 x.u, AVal.int IntKind.u64 x.g, AVal.int IntKind.i64 x.j, AVal.vec (8 : Nat), AVal.int IntKind.u64 x.t, AVal.int
  IntKind.i64 x.ret, AVal.bool x.give]) (Res.cells (32 : Nat) [AVal.int IntKind.i64 x.line, AVal.int IntKind.i64 x.op.k, AVal.int IntKind.u64 x.op.t, AVal.int IntKind.u64
  x.op.x, AVal.int IntKind.i64 x.op.s, AVal.bool x.op.u, AVal.int IntKind.i64 x.op.b, AVal.int IntKind.i64 x.op.n, AVal.bool x.pin, AVal.int IntKind.u64 x.e, AVal.vec (3 :
  Nat), AVal.int IntKind.u64 x.t0, AVal.vec (4 : Nat), AVal.int IntKind.u64 x.t1, AVal.vec (5 : Nat), AVal.int IntKind.u64 x.t2, AVal.vec (6 : Nat), AVal.vec (7 : Nat),
  AVal.int IntKind.i64 x.b, AVal.int IntKind.i64 x.k, AVal.int IntKind.i64 x.i, AVal.int IntKind.i64 x.c, AVal.int IntKind.i64 x.bor, AVal.int IntKind.u64 x.h, AVal.int
  IntKind.u64 x.n, AVal.int IntKind.u64 x.v, AVal.int IntKind.u64 x.u, AVal.int IntKind.u64 x.g, AVal.int IntKind.i64 x.j, AVal.vec (8 : Nat), AVal.int IntKind.u64 x.t,
  AVal.int IntKind.i64 x.ret, AVal.bool x.give]) ∧ True) ∧ True) ∧ ∀ (s_1 : Nat × List Int), s_1.fst ≤ List.length x.hold ∧ List.length s_1.snd = List.length x.hold → cnd
  (decide ((↑s_1.fst : Int) < (↑(List.length s_1.snd) : Int))) (((0 : Int) ≤ (↑s_1.fst : Int) ∧ (↑s_1.fst : Int) < (↑(List.length s_1.snd) : Int)) ∧ Int.toNat (↑s_1.fst :
  Int) < List.length s_1.snd ∧ ((0 : Int) ≤ (↑s_1.fst : Int) ∧ (↑s_1.fst : Int) < (↑(List.length s_1.snd) : Int)) ∧ Int.toNat (↑s_1.fst : Int) < List.length s_1.snd ∧ ∃ (s'
  : Nat × List Int), (s'.fst ≤ List.length x.hold ∧ List.length s'.snd = List.length x.hold) ∧ List.length x.hold - s'.fst < List.length x.hold - s_1.fst ∧ (EqA (AVal.int
  IntKind.i64 (IntKind.wrap IntKind.i64 ((↑s_1.fst : Int) + (1 : Int)))) (AVal.int IntKind.i64 (↑s'.fst : Int)) ∧ True) ∧ ((True ∧ EqA (AVal.int IntKind.i64 x.line)
  (AVal.int IntKind.i64 x.line) ∧ EqA (AVal.int IntKind.i64 x.op.k) (AVal.int IntKind.i64 x.op.k) ∧ EqA (AVal.int IntKind.u64 x.op.t) (AVal.int IntKind.u64 x.op.t) ∧ EqA
  (AVal.int IntKind.u64 x.op.x) (AVal.int IntKind.u64 x.op.x) ∧ EqA (AVal.int IntKind.i64 x.op.s) (AVal.int IntKind.i64 x.op.s) ∧ EqA (AVal.bool x.op.u) (AVal.bool x.op.u)
  ∧ EqA (AVal.int IntKind.i64 x.op.b) (AVal.int IntKind.i64 x.op.b) ∧ EqA (AVal.int IntKind.i64 x.op.n) (AVal.int IntKind.i64 x.op.n) ∧ EqA (AVal.bool x.pin) (AVal.bool
  x.pin) ∧ EqA (AVal.int IntKind.u64 x.e) (AVal.int IntKind.u64 x.e) ∧ EqA (AVal.list (3 : Nat) x.rack) (AVal.list (3 : Nat) x.rack) ∧ EqA (AVal.int IntKind.u64 x.t0)
  (AVal.int IntKind.u64 x.t0) ∧ EqA (AVal.list (3 : Nat) x.l0) (AVal.list (3 : Nat) x.l0) ∧ EqA (AVal.int IntKind.u64 x.t1) (AVal.int IntKind.u64 x.t1) ∧ EqA (AVal.list (3
  : Nat) x.l1) (AVal.list (3 : Nat) x.l1) ∧ EqA (AVal.int IntKind.u64 x.t2) (AVal.int IntKind.u64 x.t2) ∧ EqA (AVal.list (3 : Nat) x.l2) (AVal.list (3 : Nat) x.l2) ∧ EqA
  (AVal.list (3 : Nat) x.hold) (AVal.list (3 : Nat) x.hold) ∧ EqA (AVal.int IntKind.i64 x.b) (AVal.int IntKind.i64 x.b) ∧ EqA (AVal.int IntKind.i64 x.k) (AVal.int
  IntKind.i64 x.k) ∧ EqA (AVal.int IntKind.i64 x.i) (AVal.int IntKind.i64 x.i) ∧ EqA (AVal.int IntKind.i64 x.c) (AVal.int IntKind.i64 x.c) ∧ EqA (AVal.int IntKind.i64
  x.bor) (AVal.int IntKind.i64 x.bor) ∧ EqA (AVal.int IntKind.u64 x.h) (AVal.int IntKind.u64 x.h) ∧ EqA (AVal.int IntKind.u64 x.n) (AVal.int IntKind.u64 x.n) ∧ EqA
  (AVal.int IntKind.u64 x.v) (AVal.int IntKind.u64 x.v) ∧ EqA (AVal.int IntKind.u64 x.u) (AVal.int IntKind.u64 x.u) ∧ EqA (AVal.int IntKind.u64 x.g) (AVal.int IntKind.u64
  x.g) ∧ EqA (AVal.int IntKind.i64 x.j) (AVal.int IntKind.i64 x.j) ∧ EqA (AVal.list (22 : Nat) x.read) (AVal.list (22 : Nat) x.read) ∧ EqA (AVal.int IntKind.u64 x.t)
  (AVal.int IntKind.u64 x.t) ∧ EqA (AVal.int IntKind.i64 x.ret) (AVal.int IntKind.i64 x.ret) ∧ EqA (AVal.bool x.give) (AVal.bool x.give) ∧ True) ∧ (True ∧ EqA (AVal.int
  IntKind.i64 x.line) (AVal.int IntKind.i64 x.line) ∧ EqA (AVal.int IntKind.i64 x.op.k) (AVal.int IntKind.i64 x.op.k) ∧ EqA (AVal.int IntKind.u64 x.op.t) (AVal.int
  IntKind.u64 x.op.t) ∧ EqA (AVal.int IntKind.u64 x.op.x) (AVal.int IntKind.u64 x.op.x) ∧ EqA (AVal.int IntKind.i64 x.op.s) (AVal.int IntKind.i64 x.op.s) ∧ EqA (AVal.bool
  x.op.u) (AVal.bool x.op.u) ∧ EqA (AVal.int IntKind.i64 x.op.b) (AVal.int IntKind.i64 x.op.b) ∧ EqA (AVal.int IntKind.i64 x.op.n) (AVal.int IntKind.i64 x.op.n) ∧ EqA
  (AVal.bool x.pin) (AVal.bool x.pin) ∧ EqA (AVal.int IntKind.u64 x.e) (AVal.int IntKind.u64 x.e) ∧ EqA (AVal.list (3 : Nat) x.rack) (AVal.list (3 : Nat) x.rack) ∧ EqA
  (AVal.int IntKind.u64 x.t0) (AVal.int IntKind.u64 x.t0) ∧ EqA (AVal.list (3 : Nat) x.l0) (AVal.list (3 : Nat) x.l0) ∧ EqA (AVal.int IntKind.u64 x.t1) (AVal.int
  IntKind.u64 x.t1) ∧ EqA (AVal.list (3 : Nat) x.l1) (AVal.list (3 : Nat) x.l1) ∧ EqA (AVal.int IntKind.u64 x.t2) (AVal.int IntKind.u64 x.t2) ∧ EqA (AVal.list (3 : Nat)
  x.l2) (AVal.list (3 : Nat) x.l2) ∧ EqA (AVal.list (3 : Nat) x.hold) (AVal.list (3 : Nat) x.hold) ∧ EqA (AVal.int IntKind.i64 x.b) (AVal.int IntKind.i64 x.b) ∧ EqA
  (AVal.int IntKind.i64 x.k) (AVal.int IntKind.i64 x.k) ∧ EqA (AVal.int IntKind.i64 x.i) (AVal.int IntKind.i64 x.i) ∧ EqA (AVal.int IntKind.i64 x.c) (AVal.int IntKind.i64
  x.c) ∧ EqA (AVal.int IntKind.i64 x.bor) (AVal.int IntKind.i64 x.bor) ∧ EqA (AVal.int IntKind.u64 x.h) (AVal.int IntKind.u64 x.h) ∧ EqA (AVal.int IntKind.u64 x.n)
  (AVal.int IntKind.u64 x.n) ∧ EqA (AVal.int IntKind.u64 x.v) (AVal.int IntKind.u64 x.v) ∧ EqA (AVal.int IntKind.u64 x.u) (AVal.int IntKind.u64 x.u) ∧ EqA (AVal.int
  IntKind.u64 x.g) (AVal.int IntKind.u64 x.g) ∧ EqA (AVal.int IntKind.i64 x.j) (AVal.int IntKind.i64 x.j) ∧ EqA (AVal.list (22 : Nat) x.read) (AVal.list (22 : Nat) x.read)
  ∧ EqA (AVal.int IntKind.u64 x.t) (AVal.int IntKind.u64 x.t) ∧ EqA (AVal.int IntKind.i64 x.ret) (AVal.int IntKind.i64 x.ret) ∧ EqA (AVal.bool x.give) (AVal.bool x.give) ∧
  True) ∧ EqR (Res.vec (3 : Nat) s.snd) (Res.vec (3 : Nat) s.snd) ∧ EqR (Res.vec (3 : Nat) x.l0) (Res.vec (3 : Nat) x.l0) ∧ EqR (Res.vec (3 : Nat) x.l1) (Res.vec (3 : Nat)
  x.l1) ∧ EqR (Res.vec (3 : Nat) x.l2) (Res.vec (3 : Nat) x.l2) ∧ EqR (Res.vec (3 : Nat) (List.set s_1.snd (Int.toNat (↑s_1.fst : Int)) (IntKind.wrap IntKind.i64 (List.getD
  s_1.snd (Int.toNat (↑s_1.fst : Int)) (0 : Int) + (1 : Int))))) (Res.vec (3 : Nat) s'.snd) ∧ EqR (Res.vec (22 : Nat) x.read) (Res.vec (22 : Nat) x.read) ∧ EqR (Res.cells
  (32 : Nat) [AVal.int IntKind.i64 x.line, AVal.int IntKind.i64 x.op.k, AVal.int IntKind.u64 x.op.t, AVal.int IntKind.u64 x.op.x, AVal.int IntKind.i64 x.op.s, AVal.bool
  x.op.u, AVal.int IntKind.i64 x.op.b, AVal.int IntKind.i64 x.op.n, AVal.bool x.pin, AVal.int IntKind.u64 x.e, AVal.vec (3 : Nat), AVal.int IntKind.u64 x.t0, AVal.vec (4 :
  Nat), AVal.int IntKind.u64 x.t1, AVal.vec (5 : Nat), AVal.int IntKind.u64 x.t2, AVal.vec (6 : Nat), AVal.vec (7 : Nat), AVal.int IntKind.i64 x.b, AVal.int IntKind.i64
  x.k, AVal.int IntKind.i64 x.i, AVal.int IntKind.i64 x.c, AVal.int IntKind.i64 x.bor, AVal.int IntKind.u64 x.h, AVal.int IntKind.u64 x.n, AVal.int IntKind.u64 x.v,
  AVal.int IntKind.u64 x.u, AVal.int IntKind.u64 x.g, AVal.int IntKind.i64 x.j, AVal.vec (8 : Nat), AVal.int IntKind.u64 x.t, AVal.int IntKind.i64 x.ret, AVal.bool x.give])
  (Res.cells (32 : Nat) [AVal.int IntKind.i64 x.line, AVal.int IntKind.i64 x.op.k, AVal.int IntKind.u64 x.op.t, AVal.int IntKind.u64 x.op.x, AVal.int IntKind.i64 x.op.s,
  AVal.bool x.op.u, AVal.int IntKind.i64 x.op.b, AVal.int IntKind.i64 x.op.n, AVal.bool x.pin, AVal.int IntKind.u64 x.e, AVal.vec (3 : Nat), AVal.int IntKind.u64 x.t0,
  AVal.vec (4 : Nat), AVal.int IntKind.u64 x.t1, AVal.vec (5 : Nat), AVal.int IntKind.u64 x.t2, AVal.vec (6 : Nat), AVal.vec (7 : Nat), AVal.int IntKind.i64 x.b, AVal.int
  IntKind.i64 x.k, AVal.int IntKind.i64 x.i, AVal.int IntKind.i64 x.c, AVal.int IntKind.i64 x.bor, AVal.int IntKind.u64 x.h, AVal.int IntKind.u64 x.n, AVal.int IntKind.u64
  x.v, AVal.int IntKind.u64 x.u, AVal.int IntKind.u64 x.g, AVal.int IntKind.i64 x.j, AVal.vec (8 : Nat), AVal.int IntKind.u64 x.t, AVal.int IntKind.i64 x.ret, AVal.bool
  x.give]) ∧ True) ∧ True) ((∃ (s0 : Nat × List Int), (s0.fst ≤ List.length x.read ∧ List.length s0.snd = List.length x.read) ∧ (EqA (AVal.int IntKind.i64 (0 : Int))
  (AVal.int IntKind.i64 (↑s0.fst : Int)) ∧ True) ∧ ((True ∧ EqA (AVal.int IntKind.i64 x.line) (AVal.int IntKind.i64 x.line) ∧ EqA (AVal.int IntKind.i64 x.op.k) (AVal.int
  IntKind.i64 x.op.k) ∧ EqA (AVal.int IntKind.u64 x.op.t) (AVal.int IntKind.u64 x.op.t) ∧ EqA (AVal.int IntKind.u64 x.op.x) (AVal.int IntKind.u64 x.op.x) ∧ EqA (AVal.int
  IntKind.i64 x.op.s) (AVal.int IntKind.i64 x.op.s) ∧ EqA (AVal.bool x.op.u) (AVal.bool x.op.u) ∧ EqA (AVal.int IntKind.i64 x.op.b) (AVal.int IntKind.i64 x.op.b) ∧ EqA
  (AVal.int IntKind.i64 x.op.n) (AVal.int IntKind.i64 x.op.n) ∧ EqA (AVal.bool x.pin) (AVal.bool x.pin) ∧ EqA (AVal.int IntKind.u64 x.e) (AVal.int IntKind.u64 x.e) ∧ EqA
  (AVal.list (3 : Nat) x.rack) (AVal.list (3 : Nat) x.rack) ∧ EqA (AVal.int IntKind.u64 x.t0) (AVal.int IntKind.u64 x.t0) ∧ EqA (AVal.list (3 : Nat) x.l0) (AVal.list (3 :
  Nat) x.l0) ∧ EqA (AVal.int IntKind.u64 x.t1) (AVal.int IntKind.u64 x.t1) ∧ EqA (AVal.list (3 : Nat) x.l1) (AVal.list (3 : Nat) x.l1) ∧ EqA (AVal.int IntKind.u64 x.t2)
  (AVal.int IntKind.u64 x.t2) ∧ EqA (AVal.list (3 : Nat) x.l2) (AVal.list (3 : Nat) x.l2) ∧ EqA (AVal.list (3 : Nat) x.hold) (AVal.list (3 : Nat) x.hold) ∧ EqA (AVal.int
  IntKind.i64 x.b) (AVal.int IntKind.i64 x.b) ∧ EqA (AVal.int IntKind.i64 x.k) (AVal.int IntKind.i64 x.k) ∧ EqA (AVal.int IntKind.i64 x.i) (AVal.int IntKind.i64 x.i) ∧ EqA
  (AVal.int IntKind.i64 x.c) (AVal.int IntKind.i64 x.c) ∧ EqA (AVal.int IntKind.i64 x.bor) (AVal.int IntKind.i64 x.bor) ∧ EqA (AVal.int IntKind.u64 x.h) (AVal.int
  IntKind.u64 x.h) ∧ EqA (AVal.int IntKind.u64 x.n) (AVal.int IntKind.u64 x.n) ∧ EqA (AVal.int IntKind.u64 x.v) (AVal.int IntKind.u64 x.v) ∧ EqA (AVal.int IntKind.u64 x.u)
  (AVal.int IntKind.u64 x.u) ∧ EqA (AVal.int IntKind.u64 x.g) (AVal.int IntKind.u64 x.g) ∧ EqA (AVal.int IntKind.i64 x.j) (AVal.int IntKind.i64 x.j) ∧ EqA (AVal.list (22 :
  Nat) x.read) (AVal.list (22 : Nat) x.read) ∧ EqA (AVal.int IntKind.u64 x.t) (AVal.int IntKind.u64 x.t) ∧ EqA (AVal.int IntKind.i64 x.ret) (AVal.int IntKind.i64 x.ret) ∧
  EqA (AVal.bool x.give) (AVal.bool x.give) ∧ True) ∧ (True ∧ EqA (AVal.int IntKind.i64 x.line) (AVal.int IntKind.i64 x.line) ∧ EqA (AVal.int IntKind.i64 x.op.k) (AVal.int
  IntKind.i64 x.op.k) ∧ EqA (AVal.int IntKind.u64 x.op.t) (AVal.int IntKind.u64 x.op.t) ∧ EqA (AVal.int IntKind.u64 x.op.x) (AVal.int IntKind.u64 x.op.x) ∧ EqA (AVal.int
  IntKind.i64 x.op.s) (AVal.int IntKind.i64 x.op.s) ∧ EqA (AVal.bool x.op.u) (AVal.bool x.op.u) ∧ EqA (AVal.int IntKind.i64 x.op.b) (AVal.int IntKind.i64 x.op.b) ∧ EqA
  (AVal.int IntKind.i64 x.op.n) (AVal.int IntKind.i64 x.op.n) ∧ EqA (AVal.bool x.pin) (AVal.bool x.pin) ∧ EqA (AVal.int IntKind.u64 x.e) (AVal.int IntKind.u64 x.e) ∧ EqA
  (AVal.list (3 : Nat) x.rack) (AVal.list (3 : Nat) x.rack) ∧ EqA (AVal.int IntKind.u64 x.t0) (AVal.int IntKind.u64 x.t0) ∧ EqA (AVal.list (3 : Nat) x.l0) (AVal.list (3 :
  Nat) x.l0) ∧ EqA (AVal.int IntKind.u64 x.t1) (AVal.int IntKind.u64 x.t1) ∧ EqA (AVal.list (3 : Nat) x.l1) (AVal.list (3 : Nat) x.l1) ∧ EqA (AVal.int IntKind.u64 x.t2)
  (AVal.int IntKind.u64 x.t2) ∧ EqA (AVal.list (3 : Nat) x.l2) (AVal.list (3 : Nat) x.l2) ∧ EqA (AVal.list (3 : Nat) x.hold) (AVal.list (3 : Nat) x.hold) ∧ EqA (AVal.int
  IntKind.i64 x.b) (AVal.int IntKind.i64 x.b) ∧ EqA (AVal.int IntKind.i64 x.k) (AVal.int IntKind.i64 x.k) ∧ EqA (AVal.int IntKind.i64 x.i) (AVal.int IntKind.i64 x.i) ∧ EqA
  (AVal.int IntKind.i64 x.c) (AVal.int IntKind.i64 x.c) ∧ EqA (AVal.int IntKind.i64 x.bor) (AVal.int IntKind.i64 x.bor) ∧ EqA (AVal.int IntKind.u64 x.h) (AVal.int
  IntKind.u64 x.h) ∧ EqA (AVal.int IntKind.u64 x.n) (AVal.int IntKind.u64 x.n) ∧ EqA (AVal.int IntKind.u64 x.v) (AVal.int IntKind.u64 x.v) ∧ EqA (AVal.int IntKind.u64 x.u)
  (AVal.int IntKind.u64 x.u) ∧ EqA (AVal.int IntKind.u64 x.g) (AVal.int IntKind.u64 x.g) ∧ EqA (AVal.int IntKind.i64 x.j) (AVal.int IntKind.i64 x.j) ∧ EqA (AVal.list (22 :
  Nat) x.read) (AVal.list (22 : Nat) x.read) ∧ EqA (AVal.int IntKind.u64 x.t) (AVal.int IntKind.u64 x.t) ∧ EqA (AVal.int IntKind.i64 x.ret) (AVal.int IntKind.i64 x.ret) ∧
  EqA (AVal.bool x.give) (AVal.bool x.give) ∧ True) ∧ EqR (Res.vec (3 : Nat) s.snd) (Res.vec (3 : Nat) s.snd) ∧ EqR (Res.vec (3 : Nat) x.l0) (Res.vec (3 : Nat) x.l0) ∧ EqR
  (Res.vec (3 : Nat) x.l1) (Res.vec (3 : Nat) x.l1) ∧ EqR (Res.vec (3 : Nat) x.l2) (Res.vec (3 : Nat) x.l2) ∧ EqR (Res.vec (3 : Nat) s_1.snd) (Res.vec (3 : Nat) s_1.snd) ∧
  EqR (Res.vec (22 : Nat) x.read) (Res.vec (22 : Nat) s0.snd) ∧ EqR (Res.cells (32 : Nat) [AVal.int IntKind.i64 x.line, AVal.int IntKind.i64 x.op.k, AVal.int IntKind.u64
  x.op.t, AVal.int IntKind.u64 x.op.x, AVal.int IntKind.i64 x.op.s, AVal.bool x.op.u, AVal.int IntKind.i64 x.op.b, AVal.int IntKind.i64 x.op.n, AVal.bool x.pin, AVal.int
  IntKind.u64 x.e, AVal.vec (3 : Nat), AVal.int IntKind.u64 x.t0, AVal.vec (4 : Nat), AVal.int IntKind.u64 x.t1, AVal.vec (5 : Nat), AVal.int IntKind.u64 x.t2, AVal.vec (6
  : Nat), AVal.vec (7 : Nat), AVal.int IntKind.i64 x.b, AVal.int IntKind.i64 x.k, AVal.int IntKind.i64 x.i, AVal.int IntKind.i64 x.c, AVal.int IntKind.i64 x.bor, AVal.int
  IntKind.u64 x.h, AVal.int IntKind.u64 x.n, AVal.int IntKind.u64 x.v, AVal.int IntKind.u64 x.u, AVal.int IntKind.u64 x.g, AVal.int IntKind.i64 x.j, AVal.vec (8 : Nat),
  AVal.int IntKind.u64 x.t, AVal.int IntKind.i64 x.ret, AVal.bool x.give]) (Res.cells (32 : Nat) [AVal.int IntKind.i64 x.line, AVal.int IntKind.i64 x.op.k, AVal.int
  IntKind.u64 x.op.t, AVal.int IntKind.u64 x.op.x, AVal.int IntKind.i64 x.op.s, AVal.bool x.op.u, AVal.int IntKind.i64 x.op.b, AVal.int IntKind.i64 x.op.n, AVal.bool x.pin,
  AVal.int IntKind.u64 x.e, AVal.vec (3 : Nat), AVal.int IntKind.u64 x.t0, AVal.vec (4 : Nat), AVal.int IntKind.u64 x.t1, AVal.vec (5 : Nat), AVal.int IntKind.u64 x.t2,
  AVal.vec (6 : Nat), AVal.vec (7 : Nat), AVal.int IntKind.i64 x.b, AVal.int IntKind.i64 x.k, AVal.int IntKind.i64 x.i, AVal.int IntKind.i64 x.c, AVal.int IntKind.i64
  x.bor, AVal.int IntKind.u64 x.h, AVal.int IntKind.u64 x.n, AVal.int IntKind.u64 x.v, AVal.int IntKind.u64 x.u, AVal.int IntKind.u64 x.g, AVal.int IntKind.i64 x.j,
  AVal.vec (8 : Nat), AVal.int IntKind.u64 x.t, AVal.int IntKind.i64 x.ret, AVal.bool x.give]) ∧ True) ∧ True) ∧ ∀ (s_2 : Nat × List Int), s_2.fst ≤ List.length x.read ∧
  List.length s_2.snd = List.length x.read → cnd (decide ((↑s_2.fst : Int) < (↑(List.length s_2.snd) : Int))) (((0 : Int) ≤ (↑s_2.fst : Int) ∧ (↑s_2.fst : Int) <
  (↑(List.length s_2.snd) : Int)) ∧ Int.toNat (↑s_2.fst : Int) < List.length s_2.snd ∧ ((0 : Int) ≤ (↑s_2.fst : Int) ∧ (↑s_2.fst : Int) < (↑(List.length s_2.snd) : Int)) ∧
  Int.toNat (↑s_2.fst : Int) < List.length s_2.snd ∧ ∃ (s' : Nat × List Int), (s'.fst ≤ List.length x.read ∧ List.length s'.snd = List.length x.read) ∧ List.length x.read -
  s'.fst < List.length x.read - s_2.fst ∧ (EqA (AVal.int IntKind.i64 (IntKind.wrap IntKind.i64 ((↑s_2.fst : Int) + (1 : Int)))) (AVal.int IntKind.i64 (↑s'.fst : Int)) ∧
  True) ∧ ((True ∧ EqA (AVal.int IntKind.i64 x.line) (AVal.int IntKind.i64 x.line) ∧ EqA (AVal.int IntKind.i64 x.op.k) (AVal.int IntKind.i64 x.op.k) ∧ EqA (AVal.int
  IntKind.u64 x.op.t) (AVal.int IntKind.u64 x.op.t) ∧ EqA (AVal.int IntKind.u64 x.op.x) (AVal.int IntKind.u64 x.op.x) ∧ EqA (AVal.int IntKind.i64 x.op.s) (AVal.int
  IntKind.i64 x.op.s) ∧ EqA (AVal.bool x.op.u) (AVal.bool x.op.u) ∧ EqA (AVal.int IntKind.i64 x.op.b) (AVal.int IntKind.i64 x.op.b) ∧ EqA (AVal.int IntKind.i64 x.op.n)
  (AVal.int IntKind.i64 x.op.n) ∧ EqA (AVal.bool x.pin) (AVal.bool x.pin) ∧ EqA (AVal.int IntKind.u64 x.e) (AVal.int IntKind.u64 x.e) ∧ EqA (AVal.list (3 : Nat) x.rack)
  (AVal.list (3 : Nat) x.rack) ∧ EqA (AVal.int IntKind.u64 x.t0) (AVal.int IntKind.u64 x.t0) ∧ EqA (AVal.list (3 : Nat) x.l0) (AVal.list (3 : Nat) x.l0) ∧ EqA (AVal.int
  IntKind.u64 x.t1) (AVal.int IntKind.u64 x.t1) ∧ EqA (AVal.list (3 : Nat) x.l1) (AVal.list (3 : Nat) x.l1) ∧ EqA (AVal.int IntKind.u64 x.t2) (AVal.int IntKind.u64 x.t2) ∧
  EqA (AVal.list (3 : Nat) x.l2) (AVal.list (3 : Nat) x.l2) ∧ EqA (AVal.list (3 : Nat) x.hold) (AVal.list (3 : Nat) x.hold) ∧ EqA (AVal.int IntKind.i64 x.b) (AVal.int
  IntKind.i64 x.b) ∧ EqA (AVal.int IntKind.i64 x.k) (AVal.int IntKind.i64 x.k) ∧ EqA (AVal.int IntKind.i64 x.i) (AVal.int IntKind.i64 x.i) ∧ EqA (AVal.int IntKind.i64 x.c)
  (AVal.int IntKind.i64 x.c) ∧ EqA (AVal.int IntKind.i64 x.bor) (AVal.int IntKind.i64 x.bor) ∧ EqA (AVal.int IntKind.u64 x.h) (AVal.int IntKind.u64 x.h) ∧ EqA (AVal.int
  IntKind.u64 x.n) (AVal.int IntKind.u64 x.n) ∧ EqA (AVal.int IntKind.u64 x.v) (AVal.int IntKind.u64 x.v) ∧ EqA (AVal.int IntKind.u64 x.u) (AVal.int IntKind.u64 x.u) ∧ EqA
  (AVal.int IntKind.u64 x.g) (AVal.int IntKind.u64 x.g) ∧ EqA (AVal.int IntKind.i64 x.j) (AVal.int IntKind.i64 x.j) ∧ EqA (AVal.list (22 : Nat) x.read) (AVal.list (22 :
  Nat) x.read) ∧ EqA (AVal.int IntKind.u64 x.t) (AVal.int IntKind.u64 x.t) ∧ EqA (AVal.int IntKind.i64 x.ret) (AVal.int IntKind.i64 x.ret) ∧ EqA (AVal.bool x.give)
  (AVal.bool x.give) ∧ True) ∧ (True ∧ EqA (AVal.int IntKind.i64 x.line) (AVal.int IntKind.i64 x.line) ∧ EqA (AVal.int IntKind.i64 x.op.k) (AVal.int IntKind.i64 x.op.k) ∧
  EqA (AVal.int IntKind.u64 x.op.t) (AVal.int IntKind.u64 x.op.t) ∧ EqA (AVal.int IntKind.u64 x.op.x) (AVal.int IntKind.u64 x.op.x) ∧ EqA (AVal.int IntKind.i64 x.op.s)
  (AVal.int IntKind.i64 x.op.s) ∧ EqA (AVal.bool x.op.u) (AVal.bool x.op.u) ∧ EqA (AVal.int IntKind.i64 x.op.b) (AVal.int IntKind.i64 x.op.b) ∧ EqA (AVal.int IntKind.i64
  x.op.n) (AVal.int IntKind.i64 x.op.n) ∧ EqA (AVal.bool x.pin) (AVal.bool x.pin) ∧ EqA (AVal.int IntKind.u64 x.e) (AVal.int IntKind.u64 x.e) ∧ EqA (AVal.list (3 : Nat)
  x.rack) (AVal.list (3 : Nat) x.rack) ∧ EqA (AVal.int IntKind.u64 x.t0) (AVal.int IntKind.u64 x.t0) ∧ EqA (AVal.list (3 : Nat) x.l0) (AVal.list (3 : Nat) x.l0) ∧ EqA
  (AVal.int IntKind.u64 x.t1) (AVal.int IntKind.u64 x.t1) ∧ EqA (AVal.list (3 : Nat) x.l1) (AVal.list (3 : Nat) x.l1) ∧ EqA (AVal.int IntKind.u64 x.t2) (AVal.int
  IntKind.u64 x.t2) ∧ EqA (AVal.list (3 : Nat) x.l2) (AVal.list (3 : Nat) x.l2) ∧ EqA (AVal.list (3 : Nat) x.hold) (AVal.list (3 : Nat) x.hold) ∧ EqA (AVal.int IntKind.i64
  x.b) (AVal.int IntKind.i64 x.b) ∧ EqA (AVal.int IntKind.i64 x.k) (AVal.int IntKind.i64 x.k) ∧ EqA (AVal.int IntKind.i64 x.i) (AVal.int IntKind.i64 x.i) ∧ EqA (AVal.int
  IntKind.i64 x.c) (AVal.int IntKind.i64 x.c) ∧ EqA (AVal.int IntKind.i64 x.bor) (AVal.int IntKind.i64 x.bor) ∧ EqA (AVal.int IntKind.u64 x.h) (AVal.int IntKind.u64 x.h) ∧
  EqA (AVal.int IntKind.u64 x.n) (AVal.int IntKind.u64 x.n) ∧ EqA (AVal.int IntKind.u64 x.v) (AVal.int IntKind.u64 x.v) ∧ EqA (AVal.int IntKind.u64 x.u) (AVal.int
  IntKind.u64 x.u) ∧ EqA (AVal.int IntKind.u64 x.g) (AVal.int IntKind.u64 x.g) ∧ EqA (AVal.int IntKind.i64 x.j) (AVal.int IntKind.i64 x.j) ∧ EqA (AVal.list (22 : Nat)
  x.read) (AVal.list (22 : Nat) x.read) ∧ EqA (AVal.int IntKind.u64 x.t) (AVal.int IntKind.u64 x.t) ∧ EqA (AVal.int IntKind.i64 x.ret) (AVal.int IntKind.i64 x.ret) ∧ EqA
  (AVal.bool x.give) (AVal.bool x.give) ∧ True) ∧ EqR (Res.vec (3 : Nat) s.snd) (Res.vec (3 : Nat) s.snd) ∧ EqR (Res.vec (3 : Nat) x.l0) (Res.vec (3 : Nat) x.l0) ∧ EqR
  (Res.vec (3 : Nat) x.l1) (Res.vec (3 : Nat) x.l1) ∧ EqR (Res.vec (3 : Nat) x.l2) (Res.vec (3 : Nat) x.l2) ∧ EqR (Res.vec (3 : Nat) s_1.snd) (Res.vec (3 : Nat) s_1.snd) ∧
  EqR (Res.vec (22 : Nat) (List.set s_2.snd (Int.toNat (↑s_2.fst : Int)) (IntKind.wrap IntKind.u64 (List.getD s_2.snd (Int.toNat (↑s_2.fst : Int)) (0 : Int) + (1 : Int)))))
  (Res.vec (22 : Nat) s'.snd) ∧ EqR (Res.cells (32 : Nat) [AVal.int IntKind.i64 x.line, AVal.int IntKind.i64 x.op.k, AVal.int IntKind.u64 x.op.t, AVal.int IntKind.u64
  x.op.x, AVal.int IntKind.i64 x.op.s, AVal.bool x.op.u, AVal.int IntKind.i64 x.op.b, AVal.int IntKind.i64 x.op.n, AVal.bool x.pin, AVal.int IntKind.u64 x.e, AVal.vec (3 :
  Nat), AVal.int IntKind.u64 x.t0, AVal.vec (4 : Nat), AVal.int IntKind.u64 x.t1, AVal.vec (5 : Nat), AVal.int IntKind.u64 x.t2, AVal.vec (6 : Nat), AVal.vec (7 : Nat),
  AVal.int IntKind.i64 x.b, AVal.int IntKind.i64 x.k, AVal.int IntKind.i64 x.i, AVal.int IntKind.i64 x.c, AVal.int IntKind.i64 x.bor, AVal.int IntKind.u64 x.h, AVal.int
  IntKind.u64 x.n, AVal.int IntKind.u64 x.v, AVal.int IntKind.u64 x.u, AVal.int IntKind.u64 x.g, AVal.int IntKind.i64 x.j, AVal.vec (8 : Nat), AVal.int IntKind.u64 x.t,
  AVal.int IntKind.i64 x.ret, AVal.bool x.give]) (Res.cells (32 : Nat) [AVal.int IntKind.i64 x.line, AVal.int IntKind.i64 x.op.k, AVal.int IntKind.u64 x.op.t, AVal.int
  IntKind.u64 x.op.x, AVal.int IntKind.i64 x.op.s, AVal.bool x.op.u, AVal.int IntKind.i64 x.op.b, AVal.int IntKind.i64 x.op.n, AVal.bool x.pin, AVal.int IntKind.u64 x.e,
  AVal.vec (3 : Nat), AVal.int IntKind.u64 x.t0, AVal.vec (4 : Nat), AVal.int IntKind.u64 x.t1, AVal.vec (5 : Nat), AVal.int IntKind.u64 x.t2, AVal.vec (6 : Nat), AVal.vec
  (7 : Nat), AVal.int IntKind.i64 x.b, AVal.int IntKind.i64 x.k, AVal.int IntKind.i64 x.i, AVal.int IntKind.i64 x.c, AVal.int IntKind.i64 x.bor, AVal.int IntKind.u64 x.h,
  AVal.int IntKind.u64 x.n, AVal.int IntKind.u64 x.v, AVal.int IntKind.u64 x.u, AVal.int IntKind.u64 x.g, AVal.int IntKind.i64 x.j, AVal.vec (8 : Nat), AVal.int IntKind.u64
  x.t, AVal.int IntKind.i64 x.ret, AVal.bool x.give]) ∧ True) ∧ True) ((∃ (s0 : Nat × List Int), (s0.fst ≤ List.length x.l0 ∧ List.length s0.snd = List.length x.l0) ∧ (EqA
  (AVal.int IntKind.i64 (0 : Int)) (AVal.int IntKind.i64 (↑s0.fst : Int)) ∧ True) ∧ ((True ∧ EqA (AVal.int IntKind.i64 x.line) (AVal.int IntKind.i64 x.line) ∧ EqA (AVal.int
  IntKind.i64 x.op.k) (AVal.int IntKind.i64 x.op.k) ∧ EqA (AVal.int IntKind.u64 x.op.t) (AVal.int IntKind.u64 x.op.t) ∧ EqA (AVal.int IntKind.u64 x.op.x) (AVal.int
  IntKind.u64 x.op.x) ∧ EqA (AVal.int IntKind.i64 x.op.s) (AVal.int IntKind.i64 x.op.s) ∧ EqA (AVal.bool x.op.u) (AVal.bool x.op.u) ∧ EqA (AVal.int IntKind.i64 x.op.b)
  (AVal.int IntKind.i64 x.op.b) ∧ EqA (AVal.int IntKind.i64 x.op.n) (AVal.int IntKind.i64 x.op.n) ∧ EqA (AVal.bool x.pin) (AVal.bool x.pin) ∧ EqA (AVal.int IntKind.u64 x.e)
  (AVal.int IntKind.u64 x.e) ∧ EqA (AVal.list (3 : Nat) x.rack) (AVal.list (3 : Nat) x.rack) ∧ EqA (AVal.int IntKind.u64 x.t0) (AVal.int IntKind.u64 x.t0) ∧ EqA (AVal.list
  (3 : Nat) x.l0) (AVal.list (3 : Nat) x.l0) ∧ EqA (AVal.int IntKind.u64 x.t1) (AVal.int IntKind.u64 x.t1) ∧ EqA (AVal.list (3 : Nat) x.l1) (AVal.list (3 : Nat) x.l1) ∧ EqA
  (AVal.int IntKind.u64 x.t2) (AVal.int IntKind.u64 x.t2) ∧ EqA (AVal.list (3 : Nat) x.l2) (AVal.list (3 : Nat) x.l2) ∧ EqA (AVal.list (3 : Nat) x.hold) (AVal.list (3 :
  Nat) x.hold) ∧ EqA (AVal.int IntKind.i64 x.b) (AVal.int IntKind.i64 x.b) ∧ EqA (AVal.int IntKind.i64 x.k) (AVal.int IntKind.i64 x.k) ∧ EqA (AVal.int IntKind.i64 x.i)
  (AVal.int IntKind.i64 x.i) ∧ EqA (AVal.int IntKind.i64 x.c) (AVal.int IntKind.i64 x.c) ∧ EqA (AVal.int IntKind.i64 x.bor) (AVal.int IntKind.i64 x.bor) ∧ EqA (AVal.int
  IntKind.u64 x.h) (AVal.int IntKind.u64 x.h) ∧ EqA (AVal.int IntKind.u64 x.n) (AVal.int IntKind.u64 x.n) ∧ EqA (AVal.int IntKind.u64 x.v) (AVal.int IntKind.u64 x.v) ∧ EqA
  (AVal.int IntKind.u64 x.u) (AVal.int IntKind.u64 x.u) ∧ EqA (AVal.int IntKind.u64 x.g) (AVal.int IntKind.u64 x.g) ∧ EqA (AVal.int IntKind.i64 x.j) (AVal.int IntKind.i64
  x.j) ∧ EqA (AVal.list (22 : Nat) x.read) (AVal.list (22 : Nat) x.read) ∧ EqA (AVal.int IntKind.u64 x.t) (AVal.int IntKind.u64 x.t) ∧ EqA (AVal.int IntKind.i64 x.ret)
  (AVal.int IntKind.i64 x.ret) ∧ EqA (AVal.bool x.give) (AVal.bool x.give) ∧ True) ∧ (True ∧ EqA (AVal.int IntKind.i64 x.line) (AVal.int IntKind.i64 x.line) ∧ EqA (AVal.int
  IntKind.i64 x.op.k) (AVal.int IntKind.i64 x.op.k) ∧ EqA (AVal.int IntKind.u64 x.op.t) (AVal.int IntKind.u64 x.op.t) ∧ EqA (AVal.int IntKind.u64 x.op.x) (AVal.int
  IntKind.u64 x.op.x) ∧ EqA (AVal.int IntKind.i64 x.op.s) (AVal.int IntKind.i64 x.op.s) ∧ EqA (AVal.bool x.op.u) (AVal.bool x.op.u) ∧ EqA (AVal.int IntKind.i64 x.op.b)
  (AVal.int IntKind.i64 x.op.b) ∧ EqA (AVal.int IntKind.i64 x.op.n) (AVal.int IntKind.i64 x.op.n) ∧ EqA (AVal.bool x.pin) (AVal.bool x.pin) ∧ EqA (AVal.int IntKind.u64 x.e)
  (AVal.int IntKind.u64 x.e) ∧ EqA (AVal.list (3 : Nat) x.rack) (AVal.list (3 : Nat) x.rack) ∧ EqA (AVal.int IntKind.u64 x.t0) (AVal.int IntKind.u64 x.t0) ∧ EqA (AVal.list
  (3 : Nat) x.l0) (AVal.list (3 : Nat) x.l0) ∧ EqA (AVal.int IntKind.u64 x.t1) (AVal.int IntKind.u64 x.t1) ∧ EqA (AVal.list (3 : Nat) x.l1) (AVal.list (3 : Nat) x.l1) ∧ EqA
  (AVal.int IntKind.u64 x.t2) (AVal.int IntKind.u64 x.t2) ∧ EqA (AVal.list (3 : Nat) x.l2) (AVal.list (3 : Nat) x.l2) ∧ EqA (AVal.list (3 : Nat) x.hold) (AVal.list (3 :
  Nat) x.hold) ∧ EqA (AVal.int IntKind.i64 x.b) (AVal.int IntKind.i64 x.b) ∧ EqA (AVal.int IntKind.i64 x.k) (AVal.int IntKind.i64 x.k) ∧ EqA (AVal.int IntKind.i64 x.i)
  (AVal.int IntKind.i64 x.i) ∧ EqA (AVal.int IntKind.i64 x.c) (AVal.int IntKind.i64 x.c) ∧ EqA (AVal.int IntKind.i64 x.bor) (AVal.int IntKind.i64 x.bor) ∧ EqA (AVal.int
  IntKind.u64 x.h) (AVal.int IntKind.u64 x.h) ∧ EqA (AVal.int IntKind.u64 x.n) (AVal.int IntKind.u64 x.n) ∧ EqA (AVal.int IntKind.u64 x.v) (AVal.int IntKind.u64 x.v) ∧ EqA
  (AVal.int IntKind.u64 x.u) (AVal.int IntKind.u64 x.u) ∧ EqA (AVal.int IntKind.u64 x.g) (AVal.int IntKind.u64 x.g) ∧ EqA (AVal.int IntKind.i64 x.j) (AVal.int IntKind.i64
  x.j) ∧ EqA (AVal.list (22 : Nat) x.read) (AVal.list (22 : Nat) x.read) ∧ EqA (AVal.int IntKind.u64 x.t) (AVal.int IntKind.u64 x.t) ∧ EqA (AVal.int IntKind.i64 x.ret)
  (AVal.int IntKind.i64 x.ret) ∧ EqA (AVal.bool x.give) (AVal.bool x.give) ∧ True) ∧ EqR (Res.vec (3 : Nat) s.snd) (Res.vec (3 : Nat) s.snd) ∧ EqR (Res.vec (3 : Nat) x.l0)
  (Res.vec (3 : Nat) s0.snd) ∧ EqR (Res.vec (3 : Nat) x.l1) (Res.vec (3 : Nat) x.l1) ∧ EqR (Res.vec (3 : Nat) x.l2) (Res.vec (3 : Nat) x.l2) ∧ EqR (Res.vec (3 : Nat)
  s_1.snd) (Res.vec (3 : Nat) s_1.snd) ∧ EqR (Res.vec (22 : Nat) s_2.snd) (Res.vec (22 : Nat) s_2.snd) ∧ EqR (Res.cells (32 : Nat) [AVal.int IntKind.i64 x.line, AVal.int
  IntKind.i64 x.op.k, AVal.int IntKind.u64 x.op.t, AVal.int IntKind.u64 x.op.x, AVal.int IntKind.i64 x.op.s, AVal.bool x.op.u, AVal.int IntKind.i64 x.op.b, AVal.int
  IntKind.i64 x.op.n, AVal.bool x.pin, AVal.int IntKind.u64 x.e, AVal.vec (3 : Nat), AVal.int IntKind.u64 x.t0, AVal.vec (4 : Nat), AVal.int IntKind.u64 x.t1, AVal.vec (5 :
  Nat), AVal.int IntKind.u64 x.t2, AVal.vec (6 : Nat), AVal.vec (7 : Nat), AVal.int IntKind.i64 x.b, AVal.int IntKind.i64 x.k, AVal.int IntKind.i64 x.i, AVal.int
  IntKind.i64 x.c, AVal.int IntKind.i64 x.bor, AVal.int IntKind.u64 x.h, AVal.int IntKind.u64 x.n, AVal.int IntKind.u64 x.v, AVal.int IntKind.u64 x.u, AVal.int IntKind.u64
  x.g, AVal.int IntKind.i64 x.j, AVal.vec (8 : Nat), AVal.int IntKind.u64 x.t, AVal.int IntKind.i64 x.ret, AVal.bool x.give]) (Res.cells (32 : Nat) [AVal.int IntKind.i64
  x.line, AVal.int IntKind.i64 x.op.k, AVal.int IntKind.u64 x.op.t, AVal.int IntKind.u64 x.op.x, AVal.int IntKind.i64 x.op.s, AVal.bool x.op.u, AVal.int IntKind.i64 x.op.b,
  AVal.int IntKind.i64 x.op.n, AVal.bool x.pin, AVal.int IntKind.u64 x.e, AVal.vec (3 : Nat), AVal.int IntKind.u64 x.t0, AVal.vec (4 : Nat), AVal.int IntKind.u64 x.t1,
  AVal.vec (5 : Nat), AVal.int IntKind.u64 x.t2, AVal.vec (6 : Nat), AVal.vec (7 : Nat), AVal.int IntKind.i64 x.b, AVal.int IntKind.i64 x.k, AVal.int IntKind.i64 x.i,
  AVal.int IntKind.i64 x.c, AVal.int IntKind.i64 x.bor, AVal.int IntKind.u64 x.h, AVal.int IntKind.u64 x.n, AVal.int IntKind.u64 x.v, AVal.int IntKind.u64 x.u, AVal.int
  IntKind.u64 x.g, AVal.int IntKind.i64 x.j, AVal.vec (8 : Nat), AVal.int IntKind.u64 x.t, AVal.int IntKind.i64 x.ret, AVal.bool x.give]) ∧ True) ∧ True) ∧ ∀ (s_3 : Nat ×
  List Int), s_3.fst ≤ List.length x.l0 ∧ List.length s_3.snd = List.length x.l0 → cnd (decide ((↑s_3.fst : Int) < (↑(List.length s_3.snd) : Int))) (((0 : Int) ≤ (↑s_3.fst
  : Int) ∧ (↑s_3.fst : Int) < (↑(List.length s_3.snd) : Int)) ∧ Int.toNat (↑s_3.fst : Int) < List.length s_3.snd ∧ ((0 : Int) ≤ (↑s_3.fst : Int) ∧ (↑s_3.fst : Int) <
  (↑(List.length s_3.snd) : Int)) ∧ Int.toNat (↑s_3.fst : Int) < List.length s_3.snd ∧ ∃ (s' : Nat × List Int), (s'.fst ≤ List.length x.l0 ∧ List.length s'.snd =
  List.length x.l0) ∧ List.length x.l0 - s'.fst < List.length x.l0 - s_3.fst ∧ (EqA (AVal.int IntKind.i64 (IntKind.wrap IntKind.i64 ((↑s_3.fst : Int) + (1 : Int))))
  (AVal.int IntKind.i64 (↑s'.fst : Int)) ∧ True) ∧ ((True ∧ EqA (AVal.int IntKind.i64 x.line) (AVal.int IntKind.i64 x.line) ∧ EqA (AVal.int IntKind.i64 x.op.k) (AVal.int
  IntKind.i64 x.op.k) ∧ EqA (AVal.int IntKind.u64 x.op.t) (AVal.int IntKind.u64 x.op.t) ∧ EqA (AVal.int IntKind.u64 x.op.x) (AVal.int IntKind.u64 x.op.x) ∧ EqA (AVal.int
  IntKind.i64 x.op.s) (AVal.int IntKind.i64 x.op.s) ∧ EqA (AVal.bool x.op.u) (AVal.bool x.op.u) ∧ EqA (AVal.int IntKind.i64 x.op.b) (AVal.int IntKind.i64 x.op.b) ∧ EqA
  (AVal.int IntKind.i64 x.op.n) (AVal.int IntKind.i64 x.op.n) ∧ EqA (AVal.bool x.pin) (AVal.bool x.pin) ∧ EqA (AVal.int IntKind.u64 x.e) (AVal.int IntKind.u64 x.e) ∧ EqA
  (AVal.list (3 : Nat) x.rack) (AVal.list (3 : Nat) x.rack) ∧ EqA (AVal.int IntKind.u64 x.t0) (AVal.int IntKind.u64 x.t0) ∧ EqA (AVal.list (3 : Nat) x.l0) (AVal.list (3 :
  Nat) x.l0) ∧ EqA (AVal.int IntKind.u64 x.t1) (AVal.int IntKind.u64 x.t1) ∧ EqA (AVal.list (3 : Nat) x.l1) (AVal.list (3 : Nat) x.l1) ∧ EqA (AVal.int IntKind.u64 x.t2)
  (AVal.int IntKind.u64 x.t2) ∧ EqA (AVal.list (3 : Nat) x.l2) (AVal.list (3 : Nat) x.l2) ∧ EqA (AVal.list (3 : Nat) x.hold) (AVal.list (3 : Nat) x.hold) ∧ EqA (AVal.int
  IntKind.i64 x.b) (AVal.int IntKind.i64 x.b) ∧ EqA (AVal.int IntKind.i64 x.k) (AVal.int IntKind.i64 x.k) ∧ EqA (AVal.int IntKind.i64 x.i) (AVal.int IntKind.i64 x.i) ∧ EqA
  (AVal.int IntKind.i64 x.c) (AVal.int IntKind.i64 x.c) ∧ EqA (AVal.int IntKind.i64 x.bor) (AVal.int IntKind.i64 x.bor) ∧ EqA (AVal.int IntKind.u64 x.h) (AVal.int
  IntKind.u64 x.h) ∧ EqA (AVal.int IntKind.u64 x.n) (AVal.int IntKind.u64 x.n) ∧ EqA (AVal.int IntKind.u64 x.v) (AVal.int IntKind.u64 x.v) ∧ EqA (AVal.int IntKind.u64 x.u)
  (AVal.int IntKind.u64 x.u) ∧ EqA (AVal.int IntKind.u64 x.g) (AVal.int IntKind.u64 x.g) ∧ EqA (AVal.int IntKind.i64 x.j) (AVal.int IntKind.i64 x.j) ∧ EqA (AVal.list (22 :
  Nat) x.read) (AVal.list (22 : Nat) x.read) ∧ EqA (AVal.int IntKind.u64 x.t) (AVal.int IntKind.u64 x.t) ∧ EqA (AVal.int IntKind.i64 x.ret) (AVal.int IntKind.i64 x.ret) ∧
  EqA (AVal.bool x.give) (AVal.bool x.give) ∧ True) ∧ (True ∧ EqA (AVal.int IntKind.i64 x.line) (AVal.int IntKind.i64 x.line) ∧ EqA (AVal.int IntKind.i64 x.op.k) (AVal.int
  IntKind.i64 x.op.k) ∧ EqA (AVal.int IntKind.u64 x.op.t) (AVal.int IntKind.u64 x.op.t) ∧ EqA (AVal.int IntKind.u64 x.op.x) (AVal.int IntKind.u64 x.op.x) ∧ EqA (AVal.int
  IntKind.i64 x.op.s) (AVal.int IntKind.i64 x.op.s) ∧ EqA (AVal.bool x.op.u) (AVal.bool x.op.u) ∧ EqA (AVal.int IntKind.i64 x.op.b) (AVal.int IntKind.i64 x.op.b) ∧ EqA
  (AVal.int IntKind.i64 x.op.n) (AVal.int IntKind.i64 x.op.n) ∧ EqA (AVal.bool x.pin) (AVal.bool x.pin) ∧ EqA (AVal.int IntKind.u64 x.e) (AVal.int IntKind.u64 x.e) ∧ EqA
  (AVal.list (3 : Nat) x.rack) (AVal.list (3 : Nat) x.rack) ∧ EqA (AVal.int IntKind.u64 x.t0) (AVal.int IntKind.u64 x.t0) ∧ EqA (AVal.list (3 : Nat) x.l0) (AVal.list (3 :
  Nat) x.l0) ∧ EqA (AVal.int IntKind.u64 x.t1) (AVal.int IntKind.u64 x.t1) ∧ EqA (AVal.list (3 : Nat) x.l1) (AVal.list (3 : Nat) x.l1) ∧ EqA (AVal.int IntKind.u64 x.t2)
  (AVal.int IntKind.u64 x.t2) ∧ EqA (AVal.list (3 : Nat) x.l2) (AVal.list (3 : Nat) x.l2) ∧ EqA (AVal.list (3 : Nat) x.hold) (AVal.list (3 : Nat) x.hold) ∧ EqA (AVal.int
  IntKind.i64 x.b) (AVal.int IntKind.i64 x.b) ∧ EqA (AVal.int IntKind.i64 x.k) (AVal.int IntKind.i64 x.k) ∧ EqA (AVal.int IntKind.i64 x.i) (AVal.int IntKind.i64 x.i) ∧ EqA
  (AVal.int IntKind.i64 x.c) (AVal.int IntKind.i64 x.c) ∧ EqA (AVal.int IntKind.i64 x.bor) (AVal.int IntKind.i64 x.bor) ∧ EqA (AVal.int IntKind.u64 x.h) (AVal.int
  IntKind.u64 x.h) ∧ EqA (AVal.int IntKind.u64 x.n) (AVal.int IntKind.u64 x.n) ∧ EqA (AVal.int IntKind.u64 x.v) (AVal.int IntKind.u64 x.v) ∧ EqA (AVal.int IntKind.u64 x.u)
  (AVal.int IntKind.u64 x.u) ∧ EqA (AVal.int IntKind.u64 x.g) (AVal.int IntKind.u64 x.g) ∧ EqA (AVal.int IntKind.i64 x.j) (AVal.int IntKind.i64 x.j) ∧ EqA (AVal.list (22 :
  Nat) x.read) (AVal.list (22 : Nat) x.read) ∧ EqA (AVal.int IntKind.u64 x.t) (AVal.int IntKind.u64 x.t) ∧ EqA (AVal.int IntKind.i64 x.ret) (AVal.int IntKind.i64 x.ret) ∧
  EqA (AVal.bool x.give) (AVal.bool x.give) ∧ True) ∧ EqR (Res.vec (3 : Nat) s.snd) (Res.vec (3 : Nat) s.snd) ∧ EqR (Res.vec (3 : Nat) (List.set s_3.snd (Int.toNat
  (↑s_3.fst : Int)) (IntKind.wrap IntKind.i64 (List.getD s_3.snd (Int.toNat (↑s_3.fst : Int)) (0 : Int) + (1 : Int))))) (Res.vec (3 : Nat) s'.snd) ∧ EqR (Res.vec (3 : Nat)
  x.l1) (Res.vec (3 : Nat) x.l1) ∧ EqR (Res.vec (3 : Nat) x.l2) (Res.vec (3 : Nat) x.l2) ∧ EqR (Res.vec (3 : Nat) s_1.snd) (Res.vec (3 : Nat) s_1.snd) ∧ EqR (Res.vec (22 :
  Nat) s_2.snd) (Res.vec (22 : Nat) s_2.snd) ∧ EqR (Res.cells (32 : Nat) [AVal.int IntKind.i64 x.line, AVal.int IntKind.i64 x.op.k, AVal.int IntKind.u64 x.op.t, AVal.int
  IntKind.u64 x.op.x, AVal.int IntKind.i64 x.op.s, AVal.bool x.op.u, AVal.int IntKind.i64 x.op.b, AVal.int IntKind.i64 x.op.n, AVal.bool x.pin, AVal.int IntKind.u64 x.e,
  AVal.vec (3 : Nat), AVal.int IntKind.u64 x.t0, AVal.vec (4 : Nat), AVal.int IntKind.u64 x.t1, AVal.vec (5 : Nat), AVal.int IntKind.u64 x.t2, AVal.vec (6 : Nat), AVal.vec
  (7 : Nat), AVal.int IntKind.i64 x.b, AVal.int IntKind.i64 x.k, AVal.int IntKind.i64 x.i, AVal.int IntKind.i64 x.c, AVal.int IntKind.i64 x.bor, AVal.int IntKind.u64 x.h,
  AVal.int IntKind.u64 x.n, AVal.int IntKind.u64 x.v, AVal.int IntKind.u64 x.u, AVal.int IntKind.u64 x.g, AVal.int IntKind.i64 x.j, AVal.vec (8 : Nat), AVal.int IntKind.u64
  x.t, AVal.int IntKind.i64 x.ret, AVal.bool x.give]) (Res.cells (32 : Nat) [AVal.int IntKind.i64 x.line, AVal.int IntKind.i64 x.op.k, AVal.int IntKind.u64 x.op.t, AVal.int
  IntKind.u64 x.op.x, AVal.int IntKind.i64 x.op.s, AVal.bool x.op.u, AVal.int IntKind.i64 x.op.b, AVal.int IntKind.i64 x.op.n, AVal.bool x.pin, AVal.int IntKind.u64 x.e,
  AVal.vec (3 : Nat), AVal.int IntKind.u64 x.t0, AVal.vec (4 : Nat), AVal.int IntKind.u64 x.t1, AVal.vec (5 : Nat), AVal.int IntKind.u64 x.t2, AVal.vec (6 : Nat), AVal.vec
  (7 : Nat), AVal.int IntKind.i64 x.b, AVal.int IntKind.i64 x.k, AVal.int IntKind.i64 x.i, AVal.int IntKind.i64 x.c, AVal.int IntKind.i64 x.bor, AVal.int IntKind.u64 x.h,
  AVal.int IntKind.u64 x.n, AVal.int IntKind.u64 x.v, AVal.int IntKind.u64 x.u, AVal.int IntKind.u64 x.g, AVal.int IntKind.i64 x.j, AVal.vec (8 : Nat), AVal.int IntKind.u64
  x.t, AVal.int IntKind.i64 x.ret, AVal.bool x.give]) ∧ True) ∧ True) ((∃ (s0 : Nat × List Int), (s0.fst ≤ List.length x.l1 ∧ List.length s0.snd = List.length x.l1) ∧ (EqA
  (AVal.int IntKind.i64 (0 : Int)) (AVal.int IntKind.i64 (↑s0.fst : Int)) ∧ True) ∧ ((True ∧ EqA (AVal.int IntKind.i64 x.line) (AVal.int IntKind.i64 x.line) ∧ EqA (AVal.int
  IntKind.i64 x.op.k) (AVal.int IntKind.i64 x.op.k) ∧ EqA (AVal.int IntKind.u64 x.op.t) (AVal.int IntKind.u64 x.op.t) ∧ EqA (AVal.int IntKind.u64 x.op.x) (AVal.int
  IntKind.u64 x.op.x) ∧ EqA (AVal.int IntKind.i64 x.op.s) (AVal.int IntKind.i64 x.op.s) ∧ EqA (AVal.bool x.op.u) (AVal.bool x.op.u) ∧ EqA (AVal.int IntKind.i64 x.op.b)
  (AVal.int IntKind.i64 x.op.b) ∧ EqA (AVal.int IntKind.i64 x.op.n) (AVal.int IntKind.i64 x.op.n) ∧ EqA (AVal.bool x.pin) (AVal.bool x.pin) ∧ EqA (AVal.int IntKind.u64 x.e)
  (AVal.int IntKind.u64 x.e) ∧ EqA (AVal.list (3 : Nat) x.rack) (AVal.list (3 : Nat) x.rack) ∧ EqA (AVal.int IntKind.u64 x.t0) (AVal.int IntKind.u64 x.t0) ∧ EqA (AVal.list
  (3 : Nat) x.l0) (AVal.list (3 : Nat) x.l0) ∧ EqA (AVal.int IntKind.u64 x.t1) (AVal.int IntKind.u64 x.t1) ∧ EqA (AVal.list (3 : Nat) x.l1) (AVal.list (3 : Nat) x.l1) ∧ EqA
  (AVal.int IntKind.u64 x.t2) (AVal.int IntKind.u64 x.t2) ∧ EqA (AVal.list (3 : Nat) x.l2) (AVal.list (3 : Nat) x.l2) ∧ EqA (AVal.list (3 : Nat) x.hold) (AVal.list (3 :
  Nat) x.hold) ∧ EqA (AVal.int IntKind.i64 x.b) (AVal.int IntKind.i64 x.b) ∧ EqA (AVal.int IntKind.i64 x.k) (AVal.int IntKind.i64 x.k) ∧ EqA (AVal.int IntKind.i64 x.i)
  (AVal.int IntKind.i64 x.i) ∧ EqA (AVal.int IntKind.i64 x.c) (AVal.int IntKind.i64 x.c) ∧ EqA (AVal.int IntKind.i64 x.bor) (AVal.int IntKind.i64 x.bor) ∧ EqA (AVal.int
  IntKind.u64 x.h) (AVal.int IntKind.u64 x.h) ∧ EqA (AVal.int IntKind.u64 x.n) (AVal.int IntKind.u64 x.n) ∧ EqA (AVal.int IntKind.u64 x.v) (AVal.int IntKind.u64 x.v) ∧ EqA
  (AVal.int IntKind.u64 x.u) (AVal.int IntKind.u64 x.u) ∧ EqA (AVal.int IntKind.u64 x.g) (AVal.int IntKind.u64 x.g) ∧ EqA (AVal.int IntKind.i64 x.j) (AVal.int IntKind.i64
  x.j) ∧ EqA (AVal.list (22 : Nat) x.read) (AVal.list (22 : Nat) x.read) ∧ EqA (AVal.int IntKind.u64 x.t) (AVal.int IntKind.u64 x.t) ∧ EqA (AVal.int IntKind.i64 x.ret)
  (AVal.int IntKind.i64 x.ret) ∧ EqA (AVal.bool x.give) (AVal.bool x.give) ∧ True) ∧ (True ∧ EqA (AVal.int IntKind.i64 x.line) (AVal.int IntKind.i64 x.line) ∧ EqA (AVal.int
  IntKind.i64 x.op.k) (AVal.int IntKind.i64 x.op.k) ∧ EqA (AVal.int IntKind.u64 x.op.t) (AVal.int IntKind.u64 x.op.t) ∧ EqA (AVal.int IntKind.u64 x.op.x) (AVal.int
  IntKind.u64 x.op.x) ∧ EqA (AVal.int IntKind.i64 x.op.s) (AVal.int IntKind.i64 x.op.s) ∧ EqA (AVal.bool x.op.u) (AVal.bool x.op.u) ∧ EqA (AVal.int IntKind.i64 x.op.b)
  (AVal.int IntKind.i64 x.op.b) ∧ EqA (AVal.int IntKind.i64 x.op.n) (AVal.int IntKind.i64 x.op.n) ∧ EqA (AVal.bool x.pin) (AVal.bool x.pin) ∧ EqA (AVal.int IntKind.u64 x.e)
  (AVal.int IntKind.u64 x.e) ∧ EqA (AVal.list (3 : Nat) x.rack) (AVal.list (3 : Nat) x.rack) ∧ EqA (AVal.int IntKind.u64 x.t0) (AVal.int IntKind.u64 x.t0) ∧ EqA (AVal.list
  (3 : Nat) x.l0) (AVal.list (3 : Nat) x.l0) ∧ EqA (AVal.int IntKind.u64 x.t1) (AVal.int IntKind.u64 x.t1) ∧ EqA (AVal.list (3 : Nat) x.l1) (AVal.list (3 : Nat) x.l1) ∧ EqA
  (AVal.int IntKind.u64 x.t2) (AVal.int IntKind.u64 x.t2) ∧ EqA (AVal.list (3 : Nat) x.l2) (AVal.list (3 : Nat) x.l2) ∧ EqA (AVal.list (3 : Nat) x.hold) (AVal.list (3 :
  Nat) x.hold) ∧ EqA (AVal.int IntKind.i64 x.b) (AVal.int IntKind.i64 x.b) ∧ EqA (AVal.int IntKind.i64 x.k) (AVal.int IntKind.i64 x.k) ∧ EqA (AVal.int IntKind.i64 x.i)
  (AVal.int IntKind.i64 x.i) ∧ EqA (AVal.int IntKind.i64 x.c) (AVal.int IntKind.i64 x.c) ∧ EqA (AVal.int IntKind.i64 x.bor) (AVal.int IntKind.i64 x.bor) ∧ EqA (AVal.int
  IntKind.u64 x.h) (AVal.int IntKind.u64 x.h) ∧ EqA (AVal.int IntKind.u64 x.n) (AVal.int IntKind.u64 x.n) ∧ EqA (AVal.int IntKind.u64 x.v) (AVal.int IntKind.u64 x.v) ∧ EqA
  (AVal.int IntKind.u64 x.u) (AVal.int IntKind.u64 x.u) ∧ EqA (AVal.int IntKind.u64 x.g) (AVal.int IntKind.u64 x.g) ∧ EqA (AVal.int IntKind.i64 x.j) (AVal.int IntKind.i64
  x.j) ∧ EqA (AVal.list (22 : Nat) x.read) (AVal.list (22 : Nat) x.read) ∧ EqA (AVal.int IntKind.u64 x.t) (AVal.int IntKind.u64 x.t) ∧ EqA (AVal.int IntKind.i64 x.ret)
  (AVal.int IntKind.i64 x.ret) ∧ EqA (AVal.bool x.give) (AVal.bool x.give) ∧ True) ∧ EqR (Res.vec (3 : Nat) s.snd) (Res.vec (3 : Nat) s.snd) ∧ EqR (Res.vec (3 : Nat)
  s_3.snd) (Res.vec (3 : Nat) s_3.snd) ∧ EqR (Res.vec (3 : Nat) x.l1) (Res.vec (3 : Nat) s0.snd) ∧ EqR (Res.vec (3 : Nat) x.l2) (Res.vec (3 : Nat) x.l2) ∧ EqR (Res.vec (3 :
  Nat) s_1.snd) (Res.vec (3 : Nat) s_1.snd) ∧ EqR (Res.vec (22 : Nat) s_2.snd) (Res.vec (22 : Nat) s_2.snd) ∧ EqR (Res.cells (32 : Nat) [AVal.int IntKind.i64 x.line,
  AVal.int IntKind.i64 x.op.k, AVal.int IntKind.u64 x.op.t, AVal.int IntKind.u64 x.op.x, AVal.int IntKind.i64 x.op.s, AVal.bool x.op.u, AVal.int IntKind.i64 x.op.b,
  AVal.int IntKind.i64 x.op.n, AVal.bool x.pin, AVal.int IntKind.u64 x.e, AVal.vec (3 : Nat), AVal.int IntKind.u64 x.t0, AVal.vec (4 : Nat), AVal.int IntKind.u64 x.t1,
  AVal.vec (5 : Nat), AVal.int IntKind.u64 x.t2, AVal.vec (6 : Nat), AVal.vec (7 : Nat), AVal.int IntKind.i64 x.b, AVal.int IntKind.i64 x.k, AVal.int IntKind.i64 x.i,
  AVal.int IntKind.i64 x.c, AVal.int IntKind.i64 x.bor, AVal.int IntKind.u64 x.h, AVal.int IntKind.u64 x.n, AVal.int IntKind.u64 x.v, AVal.int IntKind.u64 x.u, AVal.int
  IntKind.u64 x.g, AVal.int IntKind.i64 x.j, AVal.vec (8 : Nat), AVal.int IntKind.u64 x.t, AVal.int IntKind.i64 x.ret, AVal.bool x.give]) (Res.cells (32 : Nat) [AVal.int
  IntKind.i64 x.line, AVal.int IntKind.i64 x.op.k, AVal.int IntKind.u64 x.op.t, AVal.int IntKind.u64 x.op.x, AVal.int IntKind.i64 x.op.s, AVal.bool x.op.u, AVal.int
  IntKind.i64 x.op.b, AVal.int IntKind.i64 x.op.n, AVal.bool x.pin, AVal.int IntKind.u64 x.e, AVal.vec (3 : Nat), AVal.int IntKind.u64 x.t0, AVal.vec (4 : Nat), AVal.int
  IntKind.u64 x.t1, AVal.vec (5 : Nat), AVal.int IntKind.u64 x.t2, AVal.vec (6 : Nat), AVal.vec (7 : Nat), AVal.int IntKind.i64 x.b, AVal.int IntKind.i64 x.k, AVal.int
  IntKind.i64 x.i, AVal.int IntKind.i64 x.c, AVal.int IntKind.i64 x.bor, AVal.int IntKind.u64 x.h, AVal.int IntKind.u64 x.n, AVal.int IntKind.u64 x.v, AVal.int IntKind.u64
  x.u, AVal.int IntKind.u64 x.g, AVal.int IntKind.i64 x.j, AVal.vec (8 : Nat), AVal.int IntKind.u64 x.t, AVal.int IntKind.i64 x.ret, AVal.bool x.give]) ∧ True) ∧ True) ∧ ∀
  (s_4 : Nat × List Int), s_4.fst ≤ List.length x.l1 ∧ List.length s_4.snd = List.length x.l1 → cnd (decide ((↑s_4.fst : Int) < (↑(List.length s_4.snd) : Int))) (((0 : Int)
  ≤ (↑s_4.fst : Int) ∧ (↑s_4.fst : Int) < (↑(List.length s_4.snd) : Int)) ∧ Int.toNat (↑s_4.fst : Int) < List.length s_4.snd ∧ ((0 : Int) ≤ (↑s_4.fst : Int) ∧ (↑s_4.fst :
  Int) < (↑(List.length s_4.snd) : Int)) ∧ Int.toNat (↑s_4.fst : Int) < List.length s_4.snd ∧ ∃ (s' : Nat × List Int), (s'.fst ≤ List.length x.l1 ∧ List.length s'.snd =
  List.length x.l1) ∧ List.length x.l1 - s'.fst < List.length x.l1 - s_4.fst ∧ (EqA (AVal.int IntKind.i64 (IntKind.wrap IntKind.i64 ((↑s_4.fst : Int) + (1 : Int))))
  (AVal.int IntKind.i64 (↑s'.fst : Int)) ∧ True) ∧ ((True ∧ EqA (AVal.int IntKind.i64 x.line) (AVal.int IntKind.i64 x.line) ∧ EqA (AVal.int IntKind.i64 x.op.k) (AVal.int
  IntKind.i64 x.op.k) ∧ EqA (AVal.int IntKind.u64 x.op.t) (AVal.int IntKind.u64 x.op.t) ∧ EqA (AVal.int IntKind.u64 x.op.x) (AVal.int IntKind.u64 x.op.x) ∧ EqA (AVal.int
  IntKind.i64 x.op.s) (AVal.int IntKind.i64 x.op.s) ∧ EqA (AVal.bool x.op.u) (AVal.bool x.op.u) ∧ EqA (AVal.int IntKind.i64 x.op.b) (AVal.int IntKind.i64 x.op.b) ∧ EqA
  (AVal.int IntKind.i64 x.op.n) (AVal.int IntKind.i64 x.op.n) ∧ EqA (AVal.bool x.pin) (AVal.bool x.pin) ∧ EqA (AVal.int IntKind.u64 x.e) (AVal.int IntKind.u64 x.e) ∧ EqA
  (AVal.list (3 : Nat) x.rack) (AVal.list (3 : Nat) x.rack) ∧ EqA (AVal.int IntKind.u64 x.t0) (AVal.int IntKind.u64 x.t0) ∧ EqA (AVal.list (3 : Nat) x.l0) (AVal.list (3 :
  Nat) x.l0) ∧ EqA (AVal.int IntKind.u64 x.t1) (AVal.int IntKind.u64 x.t1) ∧ EqA (AVal.list (3 : Nat) x.l1) (AVal.list (3 : Nat) x.l1) ∧ EqA (AVal.int IntKind.u64 x.t2)
  (AVal.int IntKind.u64 x.t2) ∧ EqA (AVal.list (3 : Nat) x.l2) (AVal.list (3 : Nat) x.l2) ∧ EqA (AVal.list (3 : Nat) x.hold) (AVal.list (3 : Nat) x.hold) ∧ EqA (AVal.int
  IntKind.i64 x.b) (AVal.int IntKind.i64 x.b) ∧ EqA (AVal.int IntKind.i64 x.k) (AVal.int IntKind.i64 x.k) ∧ EqA (AVal.int IntKind.i64 x.i) (AVal.int IntKind.i64 x.i) ∧ EqA
  (AVal.int IntKind.i64 x.c) (AVal.int IntKind.i64 x.c) ∧ EqA (AVal.int IntKind.i64 x.bor) (AVal.int IntKind.i64 x.bor) ∧ EqA (AVal.int IntKind.u64 x.h) (AVal.int
  IntKind.u64 x.h) ∧ EqA (AVal.int IntKind.u64 x.n) (AVal.int IntKind.u64 x.n) ∧ EqA (AVal.int IntKind.u64 x.v) (AVal.int IntKind.u64 x.v) ∧ EqA (AVal.int IntKind.u64 x.u)
  (AVal.int IntKind.u64 x.u) ∧ EqA (AVal.int IntKind.u64 x.g) (AVal.int IntKind.u64 x.g) ∧ EqA (AVal.int IntKind.i64 x.j) (AVal.int IntKind.i64 x.j) ∧ EqA (AVal.list (22 :
  Nat) x.read) (AVal.list (22 : Nat) x.read) ∧ EqA (AVal.int IntKind.u64 x.t) (AVal.int IntKind.u64 x.t) ∧ EqA (AVal.int IntKind.i64 x.ret) (AVal.int IntKind.i64 x.ret) ∧
  EqA (AVal.bool x.give) (AVal.bool x.give) ∧ True) ∧ (True ∧ EqA (AVal.int IntKind.i64 x.line) (AVal.int IntKind.i64 x.line) ∧ EqA (AVal.int IntKind.i64 x.op.k) (AVal.int
  IntKind.i64 x.op.k) ∧ EqA (AVal.int IntKind.u64 x.op.t) (AVal.int IntKind.u64 x.op.t) ∧ EqA (AVal.int IntKind.u64 x.op.x) (AVal.int IntKind.u64 x.op.x) ∧ EqA (AVal.int
  IntKind.i64 x.op.s) (AVal.int IntKind.i64 x.op.s) ∧ EqA (AVal.bool x.op.u) (AVal.bool x.op.u) ∧ EqA (AVal.int IntKind.i64 x.op.b) (AVal.int IntKind.i64 x.op.b) ∧ EqA
  (AVal.int IntKind.i64 x.op.n) (AVal.int IntKind.i64 x.op.n) ∧ EqA (AVal.bool x.pin) (AVal.bool x.pin) ∧ EqA (AVal.int IntKind.u64 x.e) (AVal.int IntKind.u64 x.e) ∧ EqA
  (AVal.list (3 : Nat) x.rack) (AVal.list (3 : Nat) x.rack) ∧ EqA (AVal.int IntKind.u64 x.t0) (AVal.int IntKind.u64 x.t0) ∧ EqA (AVal.list (3 : Nat) x.l0) (AVal.list (3 :
  Nat) x.l0) ∧ EqA (AVal.int IntKind.u64 x.t1) (AVal.int IntKind.u64 x.t1) ∧ EqA (AVal.list (3 : Nat) x.l1) (AVal.list (3 : Nat) x.l1) ∧ EqA (AVal.int IntKind.u64 x.t2)
  (AVal.int IntKind.u64 x.t2) ∧ EqA (AVal.list (3 : Nat) x.l2) (AVal.list (3 : Nat) x.l2) ∧ EqA (AVal.list (3 : Nat) x.hold) (AVal.list (3 : Nat) x.hold) ∧ EqA (AVal.int
  IntKind.i64 x.b) (AVal.int IntKind.i64 x.b) ∧ EqA (AVal.int IntKind.i64 x.k) (AVal.int IntKind.i64 x.k) ∧ EqA (AVal.int IntKind.i64 x.i) (AVal.int IntKind.i64 x.i) ∧ EqA
  (AVal.int IntKind.i64 x.c) (AVal.int IntKind.i64 x.c) ∧ EqA (AVal.int IntKind.i64 x.bor) (AVal.int IntKind.i64 x.bor) ∧ EqA (AVal.int IntKind.u64 x.h) (AVal.int
  IntKind.u64 x.h) ∧ EqA (AVal.int IntKind.u64 x.n) (AVal.int IntKind.u64 x.n) ∧ EqA (AVal.int IntKind.u64 x.v) (AVal.int IntKind.u64 x.v) ∧ EqA (AVal.int IntKind.u64 x.u)
  (AVal.int IntKind.u64 x.u) ∧ EqA (AVal.int IntKind.u64 x.g) (AVal.int IntKind.u64 x.g) ∧ EqA (AVal.int IntKind.i64 x.j) (AVal.int IntKind.i64 x.j) ∧ EqA (AVal.list (22 :
  Nat) x.read) (AVal.list (22 : Nat) x.read) ∧ EqA (AVal.int IntKind.u64 x.t) (AVal.int IntKind.u64 x.t) ∧ EqA (AVal.int IntKind.i64 x.ret) (AVal.int IntKind.i64 x.ret) ∧
  EqA (AVal.bool x.give) (AVal.bool x.give) ∧ True) ∧ EqR (Res.vec (3 : Nat) s.snd) (Res.vec (3 : Nat) s.snd) ∧ EqR (Res.vec (3 : Nat) s_3.snd) (Res.vec (3 : Nat) s_3.snd)
  ∧ EqR (Res.vec (3 : Nat) (List.set s_4.snd (Int.toNat (↑s_4.fst : Int)) (IntKind.wrap IntKind.i64 (List.getD s_4.snd (Int.toNat (↑s_4.fst : Int)) (0 : Int) + (1 :
  Int))))) (Res.vec (3 : Nat) s'.snd) ∧ EqR (Res.vec (3 : Nat) x.l2) (Res.vec (3 : Nat) x.l2) ∧ EqR (Res.vec (3 : Nat) s_1.snd) (Res.vec (3 : Nat) s_1.snd) ∧ EqR (Res.vec
  (22 : Nat) s_2.snd) (Res.vec (22 : Nat) s_2.snd) ∧ EqR (Res.cells (32 : Nat) [AVal.int IntKind.i64 x.line, AVal.int IntKind.i64 x.op.k, AVal.int IntKind.u64 x.op.t,
  AVal.int IntKind.u64 x.op.x, AVal.int IntKind.i64 x.op.s, AVal.bool x.op.u, AVal.int IntKind.i64 x.op.b, AVal.int IntKind.i64 x.op.n, AVal.bool x.pin, AVal.int
  IntKind.u64 x.e, AVal.vec (3 : Nat), AVal.int IntKind.u64 x.t0, AVal.vec (4 : Nat), AVal.int IntKind.u64 x.t1, AVal.vec (5 : Nat), AVal.int IntKind.u64 x.t2, AVal.vec (6
  : Nat), AVal.vec (7 : Nat), AVal.int IntKind.i64 x.b, AVal.int IntKind.i64 x.k, AVal.int IntKind.i64 x.i, AVal.int IntKind.i64 x.c, AVal.int IntKind.i64 x.bor, AVal.int
  IntKind.u64 x.h, AVal.int IntKind.u64 x.n, AVal.int IntKind.u64 x.v, AVal.int IntKind.u64 x.u, AVal.int IntKind.u64 x.g, AVal.int IntKind.i64 x.j, AVal.vec (8 : Nat),
  AVal.int IntKind.u64 x.t, AVal.int IntKind.i64 x.ret, AVal.bool x.give]) (Res.cells (32 : Nat) [AVal.int IntKind.i64 x.line, AVal.int IntKind.i64 x.op.k, AVal.int
  IntKind.u64 x.op.t, AVal.int IntKind.u64 x.op.x, AVal.int IntKind.i64 x.op.s, AVal.bool x.op.u, AVal.int IntKind.i64 x.op.b, AVal.int IntKind.i64 x.op.n, AVal.bool x.pin,
  AVal.int IntKind.u64 x.e, AVal.vec (3 : Nat), AVal.int IntKind.u64 x.t0, AVal.vec (4 : Nat), AVal.int IntKind.u64 x.t1, AVal.vec (5 : Nat), AVal.int IntKind.u64 x.t2,
  AVal.vec (6 : Nat), AVal.vec (7 : Nat), AVal.int IntKind.i64 x.b, AVal.int IntKind.i64 x.k, AVal.int IntKind.i64 x.i, AVal.int IntKind.i64 x.c, AVal.int IntKind.i64
  x.bor, AVal.int IntKind.u64 x.h, AVal.int IntKind.u64 x.n, AVal.int IntKind.u64 x.v, AVal.int IntKind.u64 x.u, AVal.int IntKind.u64 x.g, AVal.int IntKind.i64 x.j,
  AVal.vec (8 : Nat), AVal.int IntKind.u64 x.t, AVal.int IntKind.i64 x.ret, AVal.bool x.give]) ∧ True) ∧ True) ((∃ (s0 : Nat × List Int), (s0.fst ≤ List.length x.l2 ∧
  List.length s0.snd = List.length x.l2) ∧ (EqA (AVal.int IntKind.i64 (0 : Int)) (AVal.int IntKind.i64 (↑s0.fst : Int)) ∧ True) ∧ ((True ∧ EqA (AVal.int IntKind.i64 x.line)
  (AVal.int IntKind.i64 x.line) ∧ EqA (AVal.int IntKind.i64 x.op.k) (AVal.int IntKind.i64 x.op.k) ∧ EqA (AVal.int IntKind.u64 x.op.t) (AVal.int IntKind.u64 x.op.t) ∧ EqA
  (AVal.int IntKind.u64 x.op.x) (AVal.int IntKind.u64 x.op.x) ∧ EqA (AVal.int IntKind.i64 x.op.s) (AVal.int IntKind.i64 x.op.s) ∧ EqA (AVal.bool x.op.u) (AVal.bool x.op.u)
  ∧ EqA (AVal.int IntKind.i64 x.op.b) (AVal.int IntKind.i64 x.op.b) ∧ EqA (AVal.int IntKind.i64 x.op.n) (AVal.int IntKind.i64 x.op.n) ∧ EqA (AVal.bool x.pin) (AVal.bool
  x.pin) ∧ EqA (AVal.int IntKind.u64 x.e) (AVal.int IntKind.u64 x.e) ∧ EqA (AVal.list (3 : Nat) x.rack) (AVal.list (3 : Nat) x.rack) ∧ EqA (AVal.int IntKind.u64 x.t0)
  (AVal.int IntKind.u64 x.t0) ∧ EqA (AVal.list (3 : Nat) x.l0) (AVal.list (3 : Nat) x.l0) ∧ EqA (AVal.int IntKind.u64 x.t1) (AVal.int IntKind.u64 x.t1) ∧ EqA (AVal.list (3
  : Nat) x.l1) (AVal.list (3 : Nat) x.l1) ∧ EqA (AVal.int IntKind.u64 x.t2) (AVal.int IntKind.u64 x.t2) ∧ EqA (AVal.list (3 : Nat) x.l2) (AVal.list (3 : Nat) x.l2) ∧ EqA
  (AVal.list (3 : Nat) x.hold) (AVal.list (3 : Nat) x.hold) ∧ EqA (AVal.int IntKind.i64 x.b) (AVal.int IntKind.i64 x.b) ∧ EqA (AVal.int IntKind.i64 x.k) (AVal.int
  IntKind.i64 x.k) ∧ EqA (AVal.int IntKind.i64 x.i) (AVal.int IntKind.i64 x.i) ∧ EqA (AVal.int IntKind.i64 x.c) (AVal.int IntKind.i64 x.c) ∧ EqA (AVal.int IntKind.i64
  x.bor) (AVal.int IntKind.i64 x.bor) ∧ EqA (AVal.int IntKind.u64 x.h) (AVal.int IntKind.u64 x.h) ∧ EqA (AVal.int IntKind.u64 x.n) (AVal.int IntKind.u64 x.n) ∧ EqA
  (AVal.int IntKind.u64 x.v) (AVal.int IntKind.u64 x.v) ∧ EqA (AVal.int IntKind.u64 x.u) (AVal.int IntKind.u64 x.u) ∧ EqA (AVal.int IntKind.u64 x.g) (AVal.int IntKind.u64
  x.g) ∧ EqA (AVal.int IntKind.i64 x.j) (AVal.int IntKind.i64 x.j) ∧ EqA (AVal.list (22 : Nat) x.read) (AVal.list (22 : Nat) x.read) ∧ EqA (AVal.int IntKind.u64 x.t)
  (AVal.int IntKind.u64 x.t) ∧ EqA (AVal.int IntKind.i64 x.ret) (AVal.int IntKind.i64 x.ret) ∧ EqA (AVal.bool x.give) (AVal.bool x.give) ∧ True) ∧ (True ∧ EqA (AVal.int
  IntKind.i64 x.line) (AVal.int IntKind.i64 x.line) ∧ EqA (AVal.int IntKind.i64 x.op.k) (AVal.int IntKind.i64 x.op.k) ∧ EqA (AVal.int IntKind.u64 x.op.t) (AVal.int
  IntKind.u64 x.op.t) ∧ EqA (AVal.int IntKind.u64 x.op.x) (AVal.int IntKind.u64 x.op.x) ∧ EqA (AVal.int IntKind.i64 x.op.s) (AVal.int IntKind.i64 x.op.s) ∧ EqA (AVal.bool
  x.op.u) (AVal.bool x.op.u) ∧ EqA (AVal.int IntKind.i64 x.op.b) (AVal.int IntKind.i64 x.op.b) ∧ EqA (AVal.int IntKind.i64 x.op.n) (AVal.int IntKind.i64 x.op.n) ∧ EqA
  (AVal.bool x.pin) (AVal.bool x.pin) ∧ EqA (AVal.int IntKind.u64 x.e) (AVal.int IntKind.u64 x.e) ∧ EqA (AVal.list (3 : Nat) x.rack) (AVal.list (3 : Nat) x.rack) ∧ EqA
  (AVal.int IntKind.u64 x.t0) (AVal.int IntKind.u64 x.t0) ∧ EqA (AVal.list (3 : Nat) x.l0) (AVal.list (3 : Nat) x.l0) ∧ EqA (AVal.int IntKind.u64 x.t1) (AVal.int
  IntKind.u64 x.t1) ∧ EqA (AVal.list (3 : Nat) x.l1) (AVal.list (3 : Nat) x.l1) ∧ EqA (AVal.int IntKind.u64 x.t2) (AVal.int IntKind.u64 x.t2) ∧ EqA (AVal.list (3 : Nat)
  x.l2) (AVal.list (3 : Nat) x.l2) ∧ EqA (AVal.list (3 : Nat) x.hold) (AVal.list (3 : Nat) x.hold) ∧ EqA (AVal.int IntKind.i64 x.b) (AVal.int IntKind.i64 x.b) ∧ EqA
  (AVal.int IntKind.i64 x.k) (AVal.int IntKind.i64 x.k) ∧ EqA (AVal.int IntKind.i64 x.i) (AVal.int IntKind.i64 x.i) ∧ EqA (AVal.int IntKind.i64 x.c) (AVal.int IntKind.i64
  x.c) ∧ EqA (AVal.int IntKind.i64 x.bor) (AVal.int IntKind.i64 x.bor) ∧ EqA (AVal.int IntKind.u64 x.h) (AVal.int IntKind.u64 x.h) ∧ EqA (AVal.int IntKind.u64 x.n)
  (AVal.int IntKind.u64 x.n) ∧ EqA (AVal.int IntKind.u64 x.v) (AVal.int IntKind.u64 x.v) ∧ EqA (AVal.int IntKind.u64 x.u) (AVal.int IntKind.u64 x.u) ∧ EqA (AVal.int
  IntKind.u64 x.g) (AVal.int IntKind.u64 x.g) ∧ EqA (AVal.int IntKind.i64 x.j) (AVal.int IntKind.i64 x.j) ∧ EqA (AVal.list (22 : Nat) x.read) (AVal.list (22 : Nat) x.read)
  ∧ EqA (AVal.int IntKind.u64 x.t) (AVal.int IntKind.u64 x.t) ∧ EqA (AVal.int IntKind.i64 x.ret) (AVal.int IntKind.i64 x.ret) ∧ EqA (AVal.bool x.give) (AVal.bool x.give) ∧
  True) ∧ EqR (Res.vec (3 : Nat) s.snd) (Res.vec (3 : Nat) s.snd) ∧ EqR (Res.vec (3 : Nat) s_3.snd) (Res.vec (3 : Nat) s_3.snd) ∧ EqR (Res.vec (3 : Nat) s_4.snd) (Res.vec
  (3 : Nat) s_4.snd) ∧ EqR (Res.vec (3 : Nat) x.l2) (Res.vec (3 : Nat) s0.snd) ∧ EqR (Res.vec (3 : Nat) s_1.snd) (Res.vec (3 : Nat) s_1.snd) ∧ EqR (Res.vec (22 : Nat)
  s_2.snd) (Res.vec (22 : Nat) s_2.snd) ∧ EqR (Res.cells (32 : Nat) [AVal.int IntKind.i64 x.line, AVal.int IntKind.i64 x.op.k, AVal.int IntKind.u64 x.op.t, AVal.int
  IntKind.u64 x.op.x, AVal.int IntKind.i64 x.op.s, AVal.bool x.op.u, AVal.int IntKind.i64 x.op.b, AVal.int IntKind.i64 x.op.n, AVal.bool x.pin, AVal.int IntKind.u64 x.e,
  AVal.vec (3 : Nat), AVal.int IntKind.u64 x.t0, AVal.vec (4 : Nat), AVal.int IntKind.u64 x.t1, AVal.vec (5 : Nat), AVal.int IntKind.u64 x.t2, AVal.vec (6 : Nat), AVal.vec
  (7 : Nat), AVal.int IntKind.i64 x.b, AVal.int IntKind.i64 x.k, AVal.int IntKind.i64 x.i, AVal.int IntKind.i64 x.c, AVal.int IntKind.i64 x.bor, AVal.int IntKind.u64 x.h,
  AVal.int IntKind.u64 x.n, AVal.int IntKind.u64 x.v, AVal.int IntKind.u64 x.u, AVal.int IntKind.u64 x.g, AVal.int IntKind.i64 x.j, AVal.vec (8 : Nat), AVal.int IntKind.u64
  x.t, AVal.int IntKind.i64 x.ret, AVal.bool x.give]) (Res.cells (32 : Nat) [AVal.int IntKind.i64 x.line, AVal.int IntKind.i64 x.op.k, AVal.int IntKind.u64 x.op.t, AVal.int
  IntKind.u64 x.op.x, AVal.int IntKind.i64 x.op.s, AVal.bool x.op.u, AVal.int IntKind.i64 x.op.b, AVal.int IntKind.i64 x.op.n, AVal.bool x.pin, AVal.int IntKind.u64 x.e,
  AVal.vec (3 : Nat), AVal.int IntKind.u64 x.t0, AVal.vec (4 : Nat), AVal.int IntKind.u64 x.t1, AVal.vec (5 : Nat), AVal.int IntKind.u64 x.t2, AVal.vec (6 : Nat), AVal.vec
  (7 : Nat), AVal.int IntKind.i64 x.b, AVal.int IntKind.i64 x.k, AVal.int IntKind.i64 x.i, AVal.int IntKind.i64 x.c, AVal.int IntKind.i64 x.bor, AVal.int IntKind.u64 x.h,
  AVal.int IntKind.u64 x.n, AVal.int IntKind.u64 x.v, AVal.int IntKind.u64 x.u, AVal.int IntKind.u64 x.g, AVal.int IntKind.i64 x.j, AVal.vec (8 : Nat), AVal.int IntKind.u64
  x.t, AVal.int IntKind.i64 x.ret, AVal.bool x.give]) ∧ True) ∧ True) ∧ ∀ (s_5 : Nat × List Int), s_5.fst ≤ List.length x.l2 ∧ List.length s_5.snd = List.length x.l2 → cnd
  (decide ((↑s_5.fst : Int) < (↑(List.length s_5.snd) : Int))) (((0 : Int) ≤ (↑s_5.fst : Int) ∧ (↑s_5.fst : Int) < (↑(List.length s_5.snd) : Int)) ∧ Int.toNat (↑s_5.fst :
  Int) < List.length s_5.snd ∧ ((0 : Int) ≤ (↑s_5.fst : Int) ∧ (↑s_5.fst : Int) < (↑(List.length s_5.snd) : Int)) ∧ Int.toNat (↑s_5.fst : Int) < List.length s_5.snd ∧ ∃ (s'
  : Nat × List Int), (s'.fst ≤ List.length x.l2 ∧ List.length s'.snd = List.length x.l2) ∧ List.length x.l2 - s'.fst < List.length x.l2 - s_5.fst ∧ (EqA (AVal.int
  IntKind.i64 (IntKind.wrap IntKind.i64 ((↑s_5.fst : Int) + (1 : Int)))) (AVal.int IntKind.i64 (↑s'.fst : Int)) ∧ True) ∧ ((True ∧ EqA (AVal.int IntKind.i64 x.line)
  (AVal.int IntKind.i64 x.line) ∧ EqA (AVal.int IntKind.i64 x.op.k) (AVal.int IntKind.i64 x.op.k) ∧ EqA (AVal.int IntKind.u64 x.op.t) (AVal.int IntKind.u64 x.op.t) ∧ EqA
  (AVal.int IntKind.u64 x.op.x) (AVal.int IntKind.u64 x.op.x) ∧ EqA (AVal.int IntKind.i64 x.op.s) (AVal.int IntKind.i64 x.op.s) ∧ EqA (AVal.bool x.op.u) (AVal.bool x.op.u)
  ∧ EqA (AVal.int IntKind.i64 x.op.b) (AVal.int IntKind.i64 x.op.b) ∧ EqA (AVal.int IntKind.i64 x.op.n) (AVal.int IntKind.i64 x.op.n) ∧ EqA (AVal.bool x.pin) (AVal.bool
  x.pin) ∧ EqA (AVal.int IntKind.u64 x.e) (AVal.int IntKind.u64 x.e) ∧ EqA (AVal.list (3 : Nat) x.rack) (AVal.list (3 : Nat) x.rack) ∧ EqA (AVal.int IntKind.u64 x.t0)
  (AVal.int IntKind.u64 x.t0) ∧ EqA (AVal.list (3 : Nat) x.l0) (AVal.list (3 : Nat) x.l0) ∧ EqA (AVal.int IntKind.u64 x.t1) (AVal.int IntKind.u64 x.t1) ∧ EqA (AVal.list (3
  : Nat) x.l1) (AVal.list (3 : Nat) x.l1) ∧ EqA (AVal.int IntKind.u64 x.t2) (AVal.int IntKind.u64 x.t2) ∧ EqA (AVal.list (3 : Nat) x.l2) (AVal.list (3 : Nat) x.l2) ∧ EqA
  (AVal.list (3 : Nat) x.hold) (AVal.list (3 : Nat) x.hold) ∧ EqA (AVal.int IntKind.i64 x.b) (AVal.int IntKind.i64 x.b) ∧ EqA (AVal.int IntKind.i64 x.k) (AVal.int
  IntKind.i64 x.k) ∧ EqA (AVal.int IntKind.i64 x.i) (AVal.int IntKind.i64 x.i) ∧ EqA (AVal.int IntKind.i64 x.c) (AVal.int IntKind.i64 x.c) ∧ EqA (AVal.int IntKind.i64
  x.bor) (AVal.int IntKind.i64 x.bor) ∧ EqA (AVal.int IntKind.u64 x.h) (AVal.int IntKind.u64 x.h) ∧ EqA (AVal.int IntKind.u64 x.n) (AVal.int IntKind.u64 x.n) ∧ EqA
  (AVal.int IntKind.u64 x.v) (AVal.int IntKind.u64 x.v) ∧ EqA (AVal.int IntKind.u64 x.u) (AVal.int IntKind.u64 x.u) ∧ EqA (AVal.int IntKind.u64 x.g) (AVal.int IntKind.u64
  x.g) ∧ EqA (AVal.int IntKind.i64 x.j) (AVal.int IntKind.i64 x.j) ∧ EqA (AVal.list (22 : Nat) x.read) (AVal.list (22 : Nat) x.read) ∧ EqA (AVal.int IntKind.u64 x.t)
  (AVal.int IntKind.u64 x.t) ∧ EqA (AVal.int IntKind.i64 x.ret) (AVal.int IntKind.i64 x.ret) ∧ EqA (AVal.bool x.give) (AVal.bool x.give) ∧ True) ∧ (True ∧ EqA (AVal.int
  IntKind.i64 x.line) (AVal.int IntKind.i64 x.line) ∧ EqA (AVal.int IntKind.i64 x.op.k) (AVal.int IntKind.i64 x.op.k) ∧ EqA (AVal.int IntKind.u64 x.op.t) (AVal.int
  IntKind.u64 x.op.t) ∧ EqA (AVal.int IntKind.u64 x.op.x) (AVal.int IntKind.u64 x.op.x) ∧ EqA (AVal.int IntKind.i64 x.op.s) (AVal.int IntKind.i64 x.op.s) ∧ EqA (AVal.bool
  x.op.u) (AVal.bool x.op.u) ∧ EqA (AVal.int IntKind.i64 x.op.b) (AVal.int IntKind.i64 x.op.b) ∧ EqA (AVal.int IntKind.i64 x.op.n) (AVal.int IntKind.i64 x.op.n) ∧ EqA
  (AVal.bool x.pin) (AVal.bool x.pin) ∧ EqA (AVal.int IntKind.u64 x.e) (AVal.int IntKind.u64 x.e) ∧ EqA (AVal.list (3 : Nat) x.rack) (AVal.list (3 : Nat) x.rack) ∧ EqA
  (AVal.int IntKind.u64 x.t0) (AVal.int IntKind.u64 x.t0) ∧ EqA (AVal.list (3 : Nat) x.l0) (AVal.list (3 : Nat) x.l0) ∧ EqA (AVal.int IntKind.u64 x.t1) (AVal.int
  IntKind.u64 x.t1) ∧ EqA (AVal.list (3 : Nat) x.l1) (AVal.list (3 : Nat) x.l1) ∧ EqA (AVal.int IntKind.u64 x.t2) (AVal.int IntKind.u64 x.t2) ∧ EqA (AVal.list (3 : Nat)
  x.l2) (AVal.list (3 : Nat) x.l2) ∧ EqA (AVal.list (3 : Nat) x.hold) (AVal.list (3 : Nat) x.hold) ∧ EqA (AVal.int IntKind.i64 x.b) (AVal.int IntKind.i64 x.b) ∧ EqA
  (AVal.int IntKind.i64 x.k) (AVal.int IntKind.i64 x.k) ∧ EqA (AVal.int IntKind.i64 x.i) (AVal.int IntKind.i64 x.i) ∧ EqA (AVal.int IntKind.i64 x.c) (AVal.int IntKind.i64
  x.c) ∧ EqA (AVal.int IntKind.i64 x.bor) (AVal.int IntKind.i64 x.bor) ∧ EqA (AVal.int IntKind.u64 x.h) (AVal.int IntKind.u64 x.h) ∧ EqA (AVal.int IntKind.u64 x.n)
  (AVal.int IntKind.u64 x.n) ∧ EqA (AVal.int IntKind.u64 x.v) (AVal.int IntKind.u64 x.v) ∧ EqA (AVal.int IntKind.u64 x.u) (AVal.int IntKind.u64 x.u) ∧ EqA (AVal.int
  IntKind.u64 x.g) (AVal.int IntKind.u64 x.g) ∧ EqA (AVal.int IntKind.i64 x.j) (AVal.int IntKind.i64 x.j) ∧ EqA (AVal.list (22 : Nat) x.read) (AVal.list (22 : Nat) x.read)
  ∧ EqA (AVal.int IntKind.u64 x.t) (AVal.int IntKind.u64 x.t) ∧ EqA (AVal.int IntKind.i64 x.ret) (AVal.int IntKind.i64 x.ret) ∧ EqA (AVal.bool x.give) (AVal.bool x.give) ∧
  True) ∧ EqR (Res.vec (3 : Nat) s.snd) (Res.vec (3 : Nat) s.snd) ∧ EqR (Res.vec (3 : Nat) s_3.snd) (Res.vec (3 : Nat) s_3.snd) ∧ EqR (Res.vec (3 : Nat) s_4.snd) (Res.vec
  (3 : Nat) s_4.snd) ∧ EqR (Res.vec (3 : Nat) (List.set s_5.snd (Int.toNat (↑s_5.fst : Int)) (IntKind.wrap IntKind.i64 (List.getD s_5.snd (Int.toNat (↑s_5.fst : Int)) (0 :
  Int) + (1 : Int))))) (Res.vec (3 : Nat) s'.snd) ∧ EqR (Res.vec (3 : Nat) s_1.snd) (Res.vec (3 : Nat) s_1.snd) ∧ EqR (Res.vec (22 : Nat) s_2.snd) (Res.vec (22 : Nat)
  s_2.snd) ∧ EqR (Res.cells (32 : Nat) [AVal.int IntKind.i64 x.line, AVal.int IntKind.i64 x.op.k, AVal.int IntKind.u64 x.op.t, AVal.int IntKind.u64 x.op.x, AVal.int
  IntKind.i64 x.op.s, AVal.bool x.op.u, AVal.int IntKind.i64 x.op.b, AVal.int IntKind.i64 x.op.n, AVal.bool x.pin, AVal.int IntKind.u64 x.e, AVal.vec (3 : Nat), AVal.int
  IntKind.u64 x.t0, AVal.vec (4 : Nat), AVal.int IntKind.u64 x.t1, AVal.vec (5 : Nat), AVal.int IntKind.u64 x.t2, AVal.vec (6 : Nat), AVal.vec (7 : Nat), AVal.int
  IntKind.i64 x.b, AVal.int IntKind.i64 x.k, AVal.int IntKind.i64 x.i, AVal.int IntKind.i64 x.c, AVal.int IntKind.i64 x.bor, AVal.int IntKind.u64 x.h, AVal.int IntKind.u64
  x.n, AVal.int IntKind.u64 x.v, AVal.int IntKind.u64 x.u, AVal.int IntKind.u64 x.g, AVal.int IntKind.i64 x.j, AVal.vec (8 : Nat), AVal.int IntKind.u64 x.t, AVal.int
  IntKind.i64 x.ret, AVal.bool x.give]) (Res.cells (32 : Nat) [AVal.int IntKind.i64 x.line, AVal.int IntKind.i64 x.op.k, AVal.int IntKind.u64 x.op.t, AVal.int IntKind.u64
  x.op.x, AVal.int IntKind.i64 x.op.s, AVal.bool x.op.u, AVal.int IntKind.i64 x.op.b, AVal.int IntKind.i64 x.op.n, AVal.bool x.pin, AVal.int IntKind.u64 x.e, AVal.vec (3 :
  Nat), AVal.int IntKind.u64 x.t0, AVal.vec (4 : Nat), AVal.int IntKind.u64 x.t1, AVal.vec (5 : Nat), AVal.int IntKind.u64 x.t2, AVal.vec (6 : Nat), AVal.vec (7 : Nat),
  AVal.int IntKind.i64 x.b, AVal.int IntKind.i64 x.k, AVal.int IntKind.i64 x.i, AVal.int IntKind.i64 x.c, AVal.int IntKind.i64 x.bor, AVal.int IntKind.u64 x.h, AVal.int
  IntKind.u64 x.n, AVal.int IntKind.u64 x.v, AVal.int IntKind.u64 x.u, AVal.int IntKind.u64 x.g, AVal.int IntKind.i64 x.j, AVal.vec (8 : Nat), AVal.int IntKind.u64 x.t,
  AVal.int IntKind.i64 x.ret, AVal.bool x.give]) ∧ True) ∧ True) (Bear x ∧ K (AVal.bool (sameW x x))))))))))) (K (AVal.bool false)))) (K (AVal.bool true))) := by kernel_rfl

end Go.Proofs.Ytggaecdhgbdilaa
