/- What the functions of package bag compute, printed. No condition. -/
import Derived.Test.YtggaecdhgbdilaaBag5
set_option linter.unusedVariables false
set_option maxRecDepth 100000
namespace Go.Proofs.Ytggaecdhgbdilaa
open Go Go.Ax

theorem vc_puts (K : AVal El → Prop) (c : Cfg) (x : Wk) (b ep : Int) : aexecF cnd cx ΓB (specPuts x b) 200 Try.f8 (codeOf Try.f8) (aPuts.enc (c, x, b, ep)) [] (fun y _ =>
  K y) = ( True ∧ True ∧ cnd (greatW x) (K (AVal.bool true)) (Bear x ∧ Easy x ∧ Easy x ∧ Easy x ∧ Easy x ∧ Easy x ∧ cnd ((!decide ((↑(List.length (bagL (nowX x) (idxW x)))
  : Int) < c.a) == decide ((↑(List.length (bagL (nowX x) (idxW x))) : Int) < c.a)) == false) (cnd ((!(bagPut (c, x, b)).snd == (bagPut (c, x, b)).snd) == false) (Bear (nowX
  x) ∧ cnd ((!sameW (nowX x) (nowX x)) == false) (Bear (bagPut (c, x, b)).fst ∧ cnd ((!sameW (bagPut (c, x, b)).fst (bagPut (c, x, b)).fst) == false) (Easy x ∧ Bear (ripeW
  (x, ep)) ∧ cnd (!sameW (ripeW (x, ep)) (ripeW (x, ep))) (K (AVal.bool false)) ((∃ (s0 : Nat), s0 ≤ List.length x.l0 ∧ (EqA (AVal.bool false) (AVal.bool (false || hasS
  (List.take s0 x.l0) b)) ∧ EqA (AVal.int IntKind.i64 (0 : Int)) (AVal.int IntKind.i64 (↑s0 : Int)) ∧ True) ∧ ((True ∧ EqA (AVal.int IntKind.i64 x.line) (AVal.int
  IntKind.i64 x.line) ∧ EqA (AVal.int IntKind.i64 x.op.k) (AVal.int IntKind.i64 x.op.k) ∧ EqA (AVal.int IntKind.u64 x.op.t) (AVal.int IntKind.u64 x.op.t) ∧ EqA (AVal.int
  IntKind.u64 x.op.x) (AVal.int IntKind.u64 x.op.x) ∧ EqA (AVal.int IntKind.i64 x.op.s) (AVal.int IntKind.i64 x.op.s) ∧ EqA (AVal.bool x.op.u) (AVal.bool x.op.u) ∧ EqA
  (AVal.int IntKind.i64 x.op.b) (AVal.int IntKind.i64 x.op.b) ∧ EqA (AVal.int IntKind.i64 x.op.n) (AVal.int IntKind.i64 x.op.n) ∧ EqA (AVal.bool x.pin) (AVal.bool x.pin) ∧
  EqA (AVal.int IntKind.u64 x.e) (AVal.int IntKind.u64 x.e) ∧ EqA (AVal.list (3 : Nat) x.rack) (AVal.list (3 : Nat) x.rack) ∧ EqA (AVal.int IntKind.u64 x.t0) (AVal.int
  IntKind.u64 x.t0) ∧ EqA (AVal.list (3 : Nat) x.l0) (AVal.list (3 : Nat) x.l0) ∧ EqA (AVal.int IntKind.u64 x.t1) (AVal.int IntKind.u64 x.t1) ∧ EqA (AVal.list (3 : Nat)
  x.l1) (AVal.list (3 : Nat) x.l1) ∧ EqA (AVal.int IntKind.u64 x.t2) (AVal.int IntKind.u64 x.t2) ∧ EqA (AVal.list (3 : Nat) x.l2) (AVal.list (3 : Nat) x.l2) ∧ EqA
  (AVal.list (3 : Nat) x.hold) (AVal.list (3 : Nat) x.hold) ∧ EqA (AVal.int IntKind.i64 x.b) (AVal.int IntKind.i64 x.b) ∧ EqA (AVal.int IntKind.i64 x.k) (AVal.int
  IntKind.i64 x.k) ∧ EqA (AVal.int IntKind.i64 x.i) (AVal.int IntKind.i64 x.i) ∧ EqA (AVal.int IntKind.i64 x.c) (AVal.int IntKind.i64 x.c) ∧ EqA (AVal.int IntKind.i64
  x.bor) (AVal.int IntKind.i64 x.bor) ∧ EqA (AVal.int IntKind.u64 x.h) (AVal.int IntKind.u64 x.h) ∧ EqA (AVal.int IntKind.u64 x.n) (AVal.int IntKind.u64 x.n) ∧ EqA
  (AVal.int IntKind.u64 x.v) (AVal.int IntKind.u64 x.v) ∧ EqA (AVal.int IntKind.u64 x.u) (AVal.int IntKind.u64 x.u) ∧ EqA (AVal.int IntKind.u64 x.g) (AVal.int IntKind.u64
  x.g) ∧ EqA (AVal.int IntKind.i64 x.j) (AVal.int IntKind.i64 x.j) ∧ EqA (AVal.list (22 : Nat) x.read) (AVal.list (22 : Nat) x.read) ∧ EqA (AVal.int IntKind.u64 x.t)
  (AVal.int IntKind.u64 x.t) ∧ EqA (AVal.int IntKind.i64 x.ret) (AVal.int IntKind.i64 x.ret) ∧ EqA (AVal.bool x.give) (AVal.bool x.give) ∧ True) ∧ (True ∧ EqA (AVal.int
  IntKind.i64 x.line) (AVal.int IntKind.i64 x.line) ∧ EqA (AVal.int IntKind.i64 x.op.k) (AVal.int IntKind.i64 x.op.k) ∧ EqA (AVal.int IntKind.u64 x.op.t) (AVal.int
  IntKind.u64 x.op.t) ∧ EqA (AVal.int IntKind.u64 x.op.x) (AVal.int IntKind.u64 x.op.x) ∧ EqA (AVal.int IntKind.i64 x.op.s) (AVal.int IntKind.i64 x.op.s) ∧ EqA (AVal.bool
  x.op.u) (AVal.bool x.op.u) ∧ EqA (AVal.int IntKind.i64 x.op.b) (AVal.int IntKind.i64 x.op.b) ∧ EqA (AVal.int IntKind.i64 x.op.n) (AVal.int IntKind.i64 x.op.n) ∧ EqA
  (AVal.bool x.pin) (AVal.bool x.pin) ∧ EqA (AVal.int IntKind.u64 x.e) (AVal.int IntKind.u64 x.e) ∧ EqA (AVal.list (3 : Nat) x.rack) (AVal.list (3 : Nat) x.rack) ∧ EqA
  (AVal.int IntKind.u64 x.t0) (AVal.int IntKind.u64 x.t0) ∧ EqA (AVal.list (3 : Nat) x.l0) (AVal.list (3 : Nat) x.l0) ∧ EqA (AVal.int IntKind.u64 x.t1) (AVal.int
  IntKind.u64 x.t1) ∧ EqA (AVal.list (3 : Nat) x.l1) (AVal.list (3 : Nat) x.l1) ∧ EqA (AVal.int IntKind.u64 x.t2) (AVal.int IntKind.u64 x.t2) ∧ EqA (AVal.list (3 : Nat)
  x.l2) (AVal.list (3 : Nat) x.l2) ∧ EqA (AVal.list (3 : Nat) x.hold) (AVal.list (3 : Nat) x.hold) ∧ EqA (AVal.int IntKind.i64 x.b) (AVal.int IntKind.i64 x.b) ∧ EqA
  (AVal.int IntKind.i64 x.k) (AVal.int IntKind.i64 x.k) ∧ EqA (AVal.int IntKind.i64 x.i) (AVal.int IntKind.i64 x.i) ∧ EqA (AVal.int IntKind.i64 x.c) (AVal.int IntKind.i64
  x.c) ∧ EqA (AVal.int IntKind.i64 x.bor) (AVal.int IntKind.i64 x.bor) ∧ EqA (AVal.int IntKind.u64 x.h) (AVal.int IntKind.u64 x.h) ∧ EqA (AVal.int IntKind.u64 x.n)
  (AVal.int IntKind.u64 x.n) ∧ EqA (AVal.int IntKind.u64 x.v) (AVal.int IntKind.u64 x.v) ∧ EqA (AVal.int IntKind.u64 x.u) (AVal.int IntKind.u64 x.u) ∧ EqA (AVal.int
  IntKind.u64 x.g) (AVal.int IntKind.u64 x.g) ∧ EqA (AVal.int IntKind.i64 x.j) (AVal.int IntKind.i64 x.j) ∧ EqA (AVal.list (22 : Nat) x.read) (AVal.list (22 : Nat) x.read)
  ∧ EqA (AVal.int IntKind.u64 x.t) (AVal.int IntKind.u64 x.t) ∧ EqA (AVal.int IntKind.i64 x.ret) (AVal.int IntKind.i64 x.ret) ∧ EqA (AVal.bool x.give) (AVal.bool x.give) ∧
  True) ∧ (True ∧ EqA (AVal.int IntKind.i64 (nowX x).line) (AVal.int IntKind.i64 (nowX x).line) ∧ EqA (AVal.int IntKind.i64 (nowX x).op.k) (AVal.int IntKind.i64 (nowX
  x).op.k) ∧ EqA (AVal.int IntKind.u64 (nowX x).op.t) (AVal.int IntKind.u64 (nowX x).op.t) ∧ EqA (AVal.int IntKind.u64 (nowX x).op.x) (AVal.int IntKind.u64 (nowX x).op.x) ∧
  EqA (AVal.int IntKind.i64 (nowX x).op.s) (AVal.int IntKind.i64 (nowX x).op.s) ∧ EqA (AVal.bool (nowX x).op.u) (AVal.bool (nowX x).op.u) ∧ EqA (AVal.int IntKind.i64 (nowX
  x).op.b) (AVal.int IntKind.i64 (nowX x).op.b) ∧ EqA (AVal.int IntKind.i64 (nowX x).op.n) (AVal.int IntKind.i64 (nowX x).op.n) ∧ EqA (AVal.bool (nowX x).pin) (AVal.bool
  (nowX x).pin) ∧ EqA (AVal.int IntKind.u64 (nowX x).e) (AVal.int IntKind.u64 (nowX x).e) ∧ EqA (AVal.list (3 : Nat) (nowX x).rack) (AVal.list (3 : Nat) (nowX x).rack) ∧
  EqA (AVal.int IntKind.u64 (nowX x).t0) (AVal.int IntKind.u64 (nowX x).t0) ∧ EqA (AVal.list (3 : Nat) (nowX x).l0) (AVal.list (3 : Nat) (nowX x).l0) ∧ EqA (AVal.int
  IntKind.u64 (nowX x).t1) (AVal.int IntKind.u64 (nowX x).t1) ∧ EqA (AVal.list (3 : Nat) (nowX x).l1) (AVal.list (3 : Nat) (nowX x).l1) ∧ EqA (AVal.int IntKind.u64 (nowX
  x).t2) (AVal.int IntKind.u64 (nowX x).t2) ∧ EqA (AVal.list (3 : Nat) (nowX x).l2) (AVal.list (3 : Nat) (nowX x).l2) ∧ EqA (AVal.list (3 : Nat) (nowX x).hold) (AVal.list
  (3 : Nat) (nowX x).hold) ∧ EqA (AVal.int IntKind.i64 (nowX x).b) (AVal.int IntKind.i64 (nowX x).b) ∧ EqA (AVal.int IntKind.i64 (nowX x).k) (AVal.int IntKind.i64 (nowX
  x).k) ∧ EqA (AVal.int IntKind.i64 (nowX x).i) (AVal.int IntKind.i64 (nowX x).i) ∧ EqA (AVal.int IntKind.i64 (nowX x).c) (AVal.int IntKind.i64 (nowX x).c) ∧ EqA (AVal.int
  IntKind.i64 (nowX x).bor) (AVal.int IntKind.i64 (nowX x).bor) ∧ EqA (AVal.int IntKind.u64 (nowX x).h) (AVal.int IntKind.u64 (nowX x).h) ∧ EqA (AVal.int IntKind.u64 (nowX
  x).n) (AVal.int IntKind.u64 (nowX x).n) ∧ EqA (AVal.int IntKind.u64 (nowX x).v) (AVal.int IntKind.u64 (nowX x).v) ∧ EqA (AVal.int IntKind.u64 (nowX x).u) (AVal.int
  IntKind.u64 (nowX x).u) ∧ EqA (AVal.int IntKind.u64 (nowX x).g) (AVal.int IntKind.u64 (nowX x).g) ∧ EqA (AVal.int IntKind.i64 (nowX x).j) (AVal.int IntKind.i64 (nowX
  x).j) ∧ EqA (AVal.list (22 : Nat) (nowX x).read) (AVal.list (22 : Nat) (nowX x).read) ∧ EqA (AVal.int IntKind.u64 (nowX x).t) (AVal.int IntKind.u64 (nowX x).t) ∧ EqA
  (AVal.int IntKind.i64 (nowX x).ret) (AVal.int IntKind.i64 (nowX x).ret) ∧ EqA (AVal.bool (nowX x).give) (AVal.bool (nowX x).give) ∧ True) ∧ (True ∧ EqA (AVal.int
  IntKind.i64 (nowX x).line) (AVal.int IntKind.i64 (nowX x).line) ∧ EqA (AVal.int IntKind.i64 (nowX x).op.k) (AVal.int IntKind.i64 (nowX x).op.k) ∧ EqA (AVal.int
  IntKind.u64 (nowX x).op.t) (AVal.int IntKind.u64 (nowX x).op.t) ∧ EqA (AVal.int IntKind.u64 (nowX x).op.x) (AVal.int IntKind.u64 (nowX x).op.x) ∧ EqA (AVal.int
  IntKind.i64 (nowX x).op.s) (AVal.int IntKind.i64 (nowX x).op.s) ∧ EqA (AVal.bool (nowX x).op.u) (AVal.bool (nowX x).op.u) ∧ EqA (AVal.int IntKind.i64 (nowX x).op.b)
  (AVal.int IntKind.i64 (nowX x).op.b) ∧ EqA (AVal.int IntKind.i64 (nowX x).op.n) (AVal.int IntKind.i64 (nowX x).op.n) ∧ EqA (AVal.bool (nowX x).pin) (AVal.bool (nowX
  x).pin) ∧ EqA (AVal.int IntKind.u64 (nowX x).e) (AVal.int IntKind.u64 (nowX x).e) ∧ EqA (AVal.list (3 : Nat) (nowX x).rack) (AVal.list (3 : Nat) (nowX x).rack) ∧ EqA
  (AVal.int IntKind.u64 (nowX x).t0) (AVal.int IntKind.u64 (nowX x).t0) ∧ EqA (AVal.list (3 : Nat) (nowX x).l0) (AVal.list (3 : Nat) (nowX x).l0) ∧ EqA (AVal.int
  IntKind.u64 (nowX x).t1) (AVal.int IntKind.u64 (nowX x).t1) ∧ EqA (AVal.list (3 : Nat) (nowX x).l1) (AVal.list (3 : Nat) (nowX x).l1) ∧ EqA (AVal.int IntKind.u64 (nowX
  x).t2) (AVal.int IntKind.u64 (nowX x).t2) ∧ EqA (AVal.list (3 : Nat) (nowX x).l2) (AVal.list (3 : Nat) (nowX x).l2) ∧ EqA (AVal.list (3 : Nat) (nowX x).hold) (AVal.list
  (3 : Nat) (nowX x).hold) ∧ EqA (AVal.int IntKind.i64 (nowX x).b) (AVal.int IntKind.i64 (nowX x).b) ∧ EqA (AVal.int IntKind.i64 (nowX x).k) (AVal.int IntKind.i64 (nowX
  x).k) ∧ EqA (AVal.int IntKind.i64 (nowX x).i) (AVal.int IntKind.i64 (nowX x).i) ∧ EqA (AVal.int IntKind.i64 (nowX x).c) (AVal.int IntKind.i64 (nowX x).c) ∧ EqA (AVal.int
  IntKind.i64 (nowX x).bor) (AVal.int IntKind.i64 (nowX x).bor) ∧ EqA (AVal.int IntKind.u64 (nowX x).h) (AVal.int IntKind.u64 (nowX x).h) ∧ EqA (AVal.int IntKind.u64 (nowX
  x).n) (AVal.int IntKind.u64 (nowX x).n) ∧ EqA (AVal.int IntKind.u64 (nowX x).v) (AVal.int IntKind.u64 (nowX x).v) ∧ EqA (AVal.int IntKind.u64 (nowX x).u) (AVal.int
  IntKind.u64 (nowX x).u) ∧ EqA (AVal.int IntKind.u64 (nowX x).g) (AVal.int IntKind.u64 (nowX x).g) ∧ EqA (AVal.int IntKind.i64 (nowX x).j) (AVal.int IntKind.i64 (nowX
  x).j) ∧ EqA (AVal.list (22 : Nat) (nowX x).read) (AVal.list (22 : Nat) (nowX x).read) ∧ EqA (AVal.int IntKind.u64 (nowX x).t) (AVal.int IntKind.u64 (nowX x).t) ∧ EqA
  (AVal.int IntKind.i64 (nowX x).ret) (AVal.int IntKind.i64 (nowX x).ret) ∧ EqA (AVal.bool (nowX x).give) (AVal.bool (nowX x).give) ∧ True) ∧ True) ∧ True) ∧ ∀ (s : Nat), s
  ≤ List.length x.l0 → cnd (decide ((↑s : Int) < (↑(List.length x.l0) : Int))) (cnd ((false || hasS (List.take s x.l0) b) == false) (((0 : Int) ≤ (↑s : Int) ∧ (↑s : Int) <
  (↑(List.length x.l0) : Int)) ∧ ∃ (s' : Nat), s' ≤ List.length x.l0 ∧ List.length x.l0 - s' < List.length x.l0 - s ∧ (EqA (AVal.bool (List.getD x.l0 (Int.toNat (↑s : Int))
  (0 : Int) == b)) (AVal.bool (false || hasS (List.take s' x.l0) b)) ∧ EqA (AVal.int IntKind.i64 (IntKind.wrap IntKind.i64 ((↑s : Int) + (1 : Int)))) (AVal.int IntKind.i64
  (↑s' : Int)) ∧ True) ∧ ((True ∧ EqA (AVal.int IntKind.i64 x.line) (AVal.int IntKind.i64 x.line) ∧ EqA (AVal.int IntKind.i64 x.op.k) (AVal.int IntKind.i64 x.op.k) ∧ EqA
  (AVal.int IntKind.u64 x.op.t) (AVal.int IntKind.u64 x.op.t) ∧ EqA (AVal.int IntKind.u64 x.op.x) (AVal.int IntKind.u64 x.op.x) ∧ EqA (AVal.int IntKind.i64 x.op.s)
  (AVal.int IntKind.i64 x.op.s) ∧ EqA (AVal.bool x.op.u) (AVal.bool x.op.u) ∧ EqA (AVal.int IntKind.i64 x.op.b) (AVal.int IntKind.i64 x.op.b) ∧ EqA (AVal.int IntKind.i64
  x.op.n) (AVal.int IntKind.i64 x.op.n) ∧ EqA (AVal.bool x.pin) (AVal.bool x.pin) ∧ EqA (AVal.int IntKind.u64 x.e) (AVal.int IntKind.u64 x.e) ∧ EqA (AVal.list (3 : Nat)
  x.rack) (AVal.list (3 : Nat) x.rack) ∧ EqA (AVal.int IntKind.u64 x.t0) (AVal.int IntKind.u64 x.t0) ∧ EqA (AVal.list (3 : Nat) x.l0) (AVal.list (3 : Nat) x.l0) ∧ EqA
  (AVal.int IntKind.u64 x.t1) (AVal.int IntKind.u64 x.t1) ∧ EqA (AVal.list (3 : Nat) x.l1) (AVal.list (3 : Nat) x.l1) ∧ EqA (AVal.int IntKind.u64 x.t2) (AVal.int
  IntKind.u64 x.t2) ∧ EqA (AVal.list (3 : Nat) x.l2) (AVal.list (3 : Nat) x.l2) ∧ EqA (AVal.list (3 : Nat) x.hold) (AVal.list (3 : Nat) x.hold) ∧ EqA (AVal.int IntKind.i64
  x.b) (AVal.int IntKind.i64 x.b) ∧ EqA (AVal.int IntKind.i64 x.k) (AVal.int IntKind.i64 x.k) ∧ EqA (AVal.int IntKind.i64 x.i) (AVal.int IntKind.i64 x.i) ∧ EqA (AVal.int
  IntKind.i64 x.c) (AVal.int IntKind.i64 x.c) ∧ EqA (AVal.int IntKind.i64 x.bor) (AVal.int IntKind.i64 x.bor) ∧ EqA (AVal.int IntKind.u64 x.h) (AVal.int IntKind.u64 x.h) ∧
  EqA (AVal.int IntKind.u64 x.n) (AVal.int IntKind.u64 x.n) ∧ EqA (AVal.int IntKind.u64 x.v) (AVal.int IntKind.u64 x.v) ∧ EqA (AVal.int IntKind.u64 x.u) (AVal.int
  IntKind.u64 x.u) ∧ EqA (AVal.int IntKind.u64 x.g) (AVal.int IntKind.u64 x.g) ∧ EqA (AVal.int IntKind.i64 x.j) (AVal.int IntKind.i64 x.j) ∧ EqA (AVal.list (22 : Nat)
  x.read) (AVal.list (22 : Nat) x.read) ∧ EqA (AVal.int IntKind.u64 x.t) (AVal.int IntKind.u64 x.t) ∧ EqA (AVal.int IntKind.i64 x.ret) (AVal.int IntKind.i64 x.ret) ∧ EqA
  (AVal.bool x.give) (AVal.bool x.give) ∧ True) ∧ (True ∧ EqA (AVal.int IntKind.i64 x.line) (AVal.int IntKind.i64 x.line) ∧ EqA (AVal.int IntKind.i64 x.op.k) (AVal.int
  IntKind.i64 x.op.k) ∧ EqA (AVal.int IntKind.u64 x.op.t) (AVal.int IntKind.u64 x.op.t) ∧ EqA (AVal.int IntKind.u64 x.op.x) (AVal.int IntKind.u64 x.op.x) ∧ EqA (AVal.int
  IntKind.i64 x.op.s) (AVal.int IntKind.i64 x.op.s) ∧ EqA (AVal.bool x.op.u) (AVal.bool x.op.u) ∧ EqA (AVal.int IntKind.i64 x.op.b) (AVal.int IntKind.i64 x.op.b) ∧ EqA
  (AVal.int IntKind.i64 x.op.n) (AVal.int IntKind.i64 x.op.n) ∧ EqA (AVal.bool x.pin) (AVal.bool x.pin) ∧ EqA (AVal.int IntKind.u64 x.e) (AVal.int IntKind.u64 x.e) ∧ EqA
  (AVal.list (3 : Nat) x.rack) (AVal.list (3 : Nat) x.rack) ∧ EqA (AVal.int IntKind.u64 x.t0) (AVal.int IntKind.u64 x.t0) ∧ EqA (AVal.list (3 : Nat) x.l0) (AVal.list (3 :
  Nat) x.l0) ∧ EqA (AVal.int IntKind.u64 x.t1) (AVal.int IntKind.u64 x.t1) ∧ EqA (AVal.list (3 : Nat) x.l1) (AVal.list (3 : Nat) x.l1) ∧ EqA (AVal.int IntKind.u64 x.t2)
  (AVal.int IntKind.u64 x.t2) ∧ EqA (AVal.list (3 : Nat) x.l2) (AVal.list (3 : Nat) x.l2) ∧ EqA (AVal.list (3 : Nat) x.hold) (AVal.list (3 : Nat) x.hold) ∧ EqA (AVal.int
  IntKind.i64 x.b) (AVal.int IntKind.i64 x.b) ∧ EqA (AVal.int IntKind.i64 x.k) (AVal.int IntKind.i64 x.k) ∧ EqA (AVal.int IntKind.i64 x.i) (AVal.int IntKind.i64 x.i) ∧ EqA
  (AVal.int IntKind.i64 x.c) (AVal.int IntKind.i64 x.c) ∧ EqA (AVal.int IntKind.i64 x.bor) (AVal.int IntKind.i64 x.bor) ∧ EqA (AVal.int IntKind.u64 x.h) (AVal.int
  IntKind.u64 x.h) ∧ EqA (AVal.int IntKind.u64 x.n) (AVal.int IntKind.u64 x.n) ∧ EqA (AVal.int IntKind.u64 x.v) (AVal.int IntKind.u64 x.v) ∧ EqA (AVal.int IntKind.u64 x.u)
  (AVal.int IntKind.u64 x.u) ∧ EqA (AVal.int IntKind.u64 x.g) (AVal.int IntKind.u64 x.g) ∧ EqA (AVal.int IntKind.i64 x.j) (AVal.int IntKind.i64 x.j) ∧ EqA (AVal.list (22 :
  Nat) x.read) (AVal.list (22 : Nat) x.read) ∧ EqA (AVal.int IntKind.u64 x.t) (AVal.int IntKind.u64 x.t) ∧ EqA (AVal.int IntKind.i64 x.ret) (AVal.int IntKind.i64 x.ret) ∧
  EqA (AVal.bool x.give) (AVal.bool x.give) ∧ True) ∧ (True ∧ EqA (AVal.int IntKind.i64 (nowX x).line) (AVal.int IntKind.i64 (nowX x).line) ∧ EqA (AVal.int IntKind.i64
  (nowX x).op.k) (AVal.int IntKind.i64 (nowX x).op.k) ∧ EqA (AVal.int IntKind.u64 (nowX x).op.t) (AVal.int IntKind.u64 (nowX x).op.t) ∧ EqA (AVal.int IntKind.u64 (nowX
  x).op.x) (AVal.int IntKind.u64 (nowX x).op.x) ∧ EqA (AVal.int IntKind.i64 (nowX x).op.s) (AVal.int IntKind.i64 (nowX x).op.s) ∧ EqA (AVal.bool (nowX x).op.u) (AVal.bool
  (nowX x).op.u) ∧ EqA (AVal.int IntKind.i64 (nowX x).op.b) (AVal.int IntKind.i64 (nowX x).op.b) ∧ EqA (AVal.int IntKind.i64 (nowX x).op.n) (AVal.int IntKind.i64 (nowX
  x).op.n) ∧ EqA (AVal.bool (nowX x).pin) (AVal.bool (nowX x).pin) ∧ EqA (AVal.int IntKind.u64 (nowX x).e) (AVal.int IntKind.u64 (nowX x).e) ∧ EqA (AVal.list (3 : Nat)
  (nowX x).rack) (AVal.list (3 : Nat) (nowX x).rack) ∧ EqA (AVal.int IntKind.u64 (nowX x).t0) (AVal.int IntKind.u64 (nowX x).t0) ∧ EqA (AVal.list (3 : Nat) (nowX x).l0)
  (AVal.list (3 : Nat) (nowX x).l0) ∧ EqA (AVal.int IntKind.u64 (nowX x).t1) (AVal.int IntKind.u64 (nowX x).t1) ∧ EqA (AVal.list (3 : Nat) (nowX x).l1) (AVal.list (3 : Nat)
  (nowX x).l1) ∧ EqA (AVal.int IntKind.u64 (nowX x).t2) (AVal.int IntKind.u64 (nowX x).t2) ∧ EqA (AVal.list (3 : Nat) (nowX x).l2) (AVal.list (3 : Nat) (nowX x).l2) ∧ EqA
  (AVal.list (3 : Nat) (nowX x).hold) (AVal.list (3 : Nat) (nowX x).hold) ∧ EqA (AVal.int IntKind.i64 (nowX x).b) (AVal.int IntKind.i64 (nowX x).b) ∧ EqA (AVal.int
  IntKind.i64 (nowX x).k) (AVal.int IntKind.i64 (nowX x).k) ∧ EqA (AVal.int IntKind.i64 (nowX x).i) (AVal.int IntKind.i64 (nowX x).i) ∧ EqA (AVal.int IntKind.i64 (nowX
  x).c) (AVal.int IntKind.i64 (nowX x).c) ∧ EqA (AVal.int IntKind.i64 (nowX x).bor) (AVal.int IntKind.i64 (nowX x).bor) ∧ EqA (AVal.int IntKind.u64 (nowX x).h) (AVal.int
  IntKind.u64 (nowX x).h) ∧ EqA (AVal.int IntKind.u64 (nowX x).n) (AVal.int IntKind.u64 (nowX x).n) ∧ EqA (AVal.int IntKind.u64 (nowX x).v) (AVal.int IntKind.u64 (nowX
  x).v) ∧ EqA (AVal.int IntKind.u64 (nowX x).u) (AVal.int IntKind.u64 (nowX x).u) ∧ EqA (AVal.int IntKind.u64 (nowX x).g) (AVal.int IntKind.u64 (nowX x).g) ∧ EqA (AVal.int
  IntKind.i64 (nowX x).j) (AVal.int IntKind.i64 (nowX x).j) ∧ EqA (AVal.list (22 : Nat) (nowX x).read) (AVal.list (22 : Nat) (nowX x).read) ∧ EqA (AVal.int IntKind.u64
  (nowX x).t) (AVal.int IntKind.u64 (nowX x).t) ∧ EqA (AVal.int IntKind.i64 (nowX x).ret) (AVal.int IntKind.i64 (nowX x).ret) ∧ EqA (AVal.bool (nowX x).give) (AVal.bool
  (nowX x).give) ∧ True) ∧ (True ∧ EqA (AVal.int IntKind.i64 (nowX x).line) (AVal.int IntKind.i64 (nowX x).line) ∧ EqA (AVal.int IntKind.i64 (nowX x).op.k) (AVal.int
  IntKind.i64 (nowX x).op.k) ∧ EqA (AVal.int IntKind.u64 (nowX x).op.t) (AVal.int IntKind.u64 (nowX x).op.t) ∧ EqA (AVal.int IntKind.u64 (nowX x).op.x) (AVal.int
  IntKind.u64 (nowX x).op.x) ∧ EqA (AVal.int IntKind.i64 (nowX x).op.s) (AVal.int IntKind.i64 (nowX x).op.s) ∧ EqA (AVal.bool (nowX x).op.u) (AVal.bool (nowX x).op.u) ∧ EqA
  (AVal.int IntKind.i64 (nowX x).op.b) (AVal.int IntKind.i64 (nowX x).op.b) ∧ EqA (AVal.int IntKind.i64 (nowX x).op.n) (AVal.int IntKind.i64 (nowX x).op.n) ∧ EqA (AVal.bool
  (nowX x).pin) (AVal.bool (nowX x).pin) ∧ EqA (AVal.int IntKind.u64 (nowX x).e) (AVal.int IntKind.u64 (nowX x).e) ∧ EqA (AVal.list (3 : Nat) (nowX x).rack) (AVal.list (3 :
  Nat) (nowX x).rack) ∧ EqA (AVal.int IntKind.u64 (nowX x).t0) (AVal.int IntKind.u64 (nowX x).t0) ∧ EqA (AVal.list (3 : Nat) (nowX x).l0) (AVal.list (3 : Nat) (nowX x).l0)
  ∧ EqA (AVal.int IntKind.u64 (nowX x).t1) (AVal.int IntKind.u64 (nowX x).t1) ∧ EqA (AVal.list (3 : Nat) (nowX x).l1) (AVal.list (3 : Nat) (nowX x).l1) ∧ EqA (AVal.int
  IntKind.u64 (nowX x).t2) (AVal.int IntKind.u64 (nowX x).t2) ∧ EqA (AVal.list (3 : Nat) (nowX x).l2) (AVal.list (3 : Nat) (nowX x).l2) ∧ EqA (AVal.list (3 : Nat) (nowX
  x).hold) (AVal.list (3 : Nat) (nowX x).hold) ∧ EqA (AVal.int IntKind.i64 (nowX x).b) (AVal.int IntKind.i64 (nowX x).b) ∧ EqA (AVal.int IntKind.i64 (nowX x).k) (AVal.int
  IntKind.i64 (nowX x).k) ∧ EqA (AVal.int IntKind.i64 (nowX x).i) (AVal.int IntKind.i64 (nowX x).i) ∧ EqA (AVal.int IntKind.i64 (nowX x).c) (AVal.int IntKind.i64 (nowX
  x).c) ∧ EqA (AVal.int IntKind.i64 (nowX x).bor) (AVal.int IntKind.i64 (nowX x).bor) ∧ EqA (AVal.int IntKind.u64 (nowX x).h) (AVal.int IntKind.u64 (nowX x).h) ∧ EqA
  (AVal.int IntKind.u64 (nowX x).n) (AVal.int IntKind.u64 (nowX x).n) ∧ EqA (AVal.int IntKind.u64 (nowX x).v) (AVal.int IntKind.u64 (nowX x).v) ∧ EqA (AVal.int IntKind.u64
  (nowX x).u) (AVal.int IntKind.u64 (nowX x).u) ∧ EqA (AVal.int IntKind.u64 (nowX x).g) (AVal.int IntKind.u64 (nowX x).g) ∧ EqA (AVal.int IntKind.i64 (nowX x).j) (AVal.int
  IntKind.i64 (nowX x).j) ∧ EqA (AVal.list (22 : Nat) (nowX x).read) (AVal.list (22 : Nat) (nowX x).read) ∧ EqA (AVal.int IntKind.u64 (nowX x).t) (AVal.int IntKind.u64
  (nowX x).t) ∧ EqA (AVal.int IntKind.i64 (nowX x).ret) (AVal.int IntKind.i64 (nowX x).ret) ∧ EqA (AVal.bool (nowX x).give) (AVal.bool (nowX x).give) ∧ True) ∧ True) ∧
  True) (∃ (s' : Nat), s' ≤ List.length x.l0 ∧ List.length x.l0 - s' < List.length x.l0 - s ∧ (EqA (AVal.bool true) (AVal.bool (false || hasS (List.take s' x.l0) b)) ∧ EqA
  (AVal.int IntKind.i64 (IntKind.wrap IntKind.i64 ((↑s : Int) + (1 : Int)))) (AVal.int IntKind.i64 (↑s' : Int)) ∧ True) ∧ ((True ∧ EqA (AVal.int IntKind.i64 x.line)
  (AVal.int IntKind.i64 x.line) ∧ EqA (AVal.int IntKind.i64 x.op.k) (AVal.int IntKind.i64 x.op.k) ∧ EqA (AVal.int IntKind.u64 x.op.t) (AVal.int IntKind.u64 x.op.t) ∧ EqA
  (AVal.int IntKind.u64 x.op.x) (AVal.int IntKind.u64 x.op.x) ∧ EqA (AVal.int IntKind.i64 x.op.s) (AVal.int IntKind.i64 x.op.s) ∧ EqA (AVal.bool x.op.u) (AVal.bool x.op.u)
  ∧ EqA (AVal.int IntKind.i64 x.op.b) (AVal.int IntKind.i64 x.op.b) ∧ EqA (AVal.int IntKind.i64 x.op.n) (AVal.int IntKind.i64 x.op.n) ∧ EqA (AVal.bool x.pin) (AVal.bool
  x.pin) ∧ EqA (AVal.int IntKind.u64 x.e) (AVal.int IntKind.u64 x.e) ∧ EqA (AVal.list (3 : Nat) x.rack) (AVal.list (3 : Nat) x.rack) ∧ EqA (AVal.int IntKind.u64 x.t0)
  (AVal.int IntKind.u64 x.t0) ∧ EqA (AVal.list (3 : Nat) x.l0) (AVal.list (3 : Nat) x.l0) ∧ EqA (AVal.int IntKind.u64 x.t1) (AVal.int IntKind.u64 x.t1) ∧ EqA (AVal.list (3
  : Nat) x.l1) (AVal.list (3 : Nat) x.l1) ∧ EqA (AVal.int IntKind.u64 x.t2) (AVal.int IntKind.u64 x.t2) ∧ EqA (AVal.list (3 : Nat) x.l2) (AVal.list (3 : Nat) x.l2) ∧ EqA
  (AVal.list (3 : Nat) x.hold) (AVal.list (3 : Nat) x.hold) ∧ EqA (AVal.int IntKind.i64 x.b) (AVal.int IntKind.i64 x.b) ∧ EqA (AVal.int IntKind.i64 x.k) (AVal.int
  IntKind.i64 x.k) ∧ EqA (AVal.int IntKind.i64 x.i) (AVal.int IntKind.i64 x.i) ∧ EqA (AVal.int IntKind.i64 x.c) (AVal.int IntKind.i64 x.c) ∧ EqA (AVal.int IntKind.i64
  x.bor) (AVal.int IntKind.i64 x.bor) ∧ EqA (AVal.int IntKind.u64 x.h) (AVal.int IntKind.u64 x.h) ∧ EqA (AVal.int IntKind.u64 x.n) (AVal.int IntKind.u64 x.n) ∧ EqA
  (AVal.int IntKind.u64 x.v) (AVal.int IntKind.u64 x.v) ∧ EqA (AVal.int IntKind.u64 x.u) (AVal.int IntKind.u64 x.u) ∧ EqA (AVal.int IntKind.u64 x.g) (AVal.int IntKind.u64
  x.g) ∧ EqA (AVal.int IntKind.i64 x.j) (AVal.int IntKind.i64 x.j) ∧ EqA (AVal.list (22 : Nat) x.read) (AVal.list (22 : Nat) x.read) ∧ EqA (AVal.int IntKind.u64 x.t)
  (AVal.int IntKind.u64 x.t) ∧ EqA (AVal.int IntKind.i64 x.ret) (AVal.int IntKind.i64 x.ret) ∧ EqA (AVal.bool x.give) (AVal.bool x.give) ∧ True) ∧ (True ∧ EqA (AVal.int
  IntKind.i64 x.line) (AVal.int IntKind.i64 x.line) ∧ EqA (AVal.int IntKind.i64 x.op.k) (AVal.int IntKind.i64 x.op.k) ∧ EqA (AVal.int IntKind.u64 x.op.t) (AVal.int
  IntKind.u64 x.op.t) ∧ EqA (AVal.int IntKind.u64 x.op.x) (AVal.int IntKind.u64 x.op.x) ∧ EqA (AVal.int IntKind.i64 x.op.s) (AVal.int IntKind.i64 x.op.s) ∧ EqA (AVal.bool
  x.op.u) (AVal.bool x.op.u) ∧ EqA (AVal.int IntKind.i64 x.op.b) (AVal.int IntKind.i64 x.op.b) ∧ EqA (AVal.int IntKind.i64 x.op.n) (AVal.int IntKind.i64 x.op.n) ∧ EqA
  (AVal.bool x.pin) (AVal.bool x.pin) ∧ EqA (AVal.int IntKind.u64 x.e) (AVal.int IntKind.u64 x.e) ∧ EqA (AVal.list (3 : Nat) x.rack) (AVal.list (3 : Nat) x.rack) ∧ EqA
  (AVal.int IntKind.u64 x.t0) (AVal.int IntKind.u64 x.t0) ∧ EqA (AVal.list (3 : Nat) x.l0) (AVal.list (3 : Nat) x.l0) ∧ EqA (AVal.int IntKind.u64 x.t1) (AVal.int
  IntKind.u64 x.t1) ∧ EqA (AVal.list (3 : Nat) x.l1) (AVal.list (3 : Nat) x.l1) ∧ EqA (AVal.int IntKind.u64 x.t2) (AVal.int IntKind.u64 x.t2) ∧ EqA (AVal.list (3 : Nat)
  x.l2) (AVal.list (3 : Nat) x.l2) ∧ EqA (AVal.list (3 : Nat) x.hold) (AVal.list (3 : Nat) x.hold) ∧ EqA (AVal.int IntKind.i64 x.b) (AVal.int IntKind.i64 x.b) ∧ EqA
  (AVal.int IntKind.i64 x.k) (AVal.int IntKind.i64 x.k) ∧ EqA (AVal.int IntKind.i64 x.i) (AVal.int IntKind.i64 x.i) ∧ EqA (AVal.int IntKind.i64 x.c) (AVal.int IntKind.i64
  x.c) ∧ EqA (AVal.int IntKind.i64 x.bor) (AVal.int IntKind.i64 x.bor) ∧ EqA (AVal.int IntKind.u64 x.h) (AVal.int IntKind.u64 x.h) ∧ EqA (AVal.int IntKind.u64 x.n)
  (AVal.int IntKind.u64 x.n) ∧ EqA (AVal.int IntKind.u64 x.v) (AVal.int IntKind.u64 x.v) ∧ EqA (AVal.int IntKind.u64 x.u) (AVal.int IntKind.u64 x.u) ∧ EqA (AVal.int
  IntKind.u64 x.g) (AVal.int IntKind.u64 x.g) ∧ EqA (AVal.int IntKind.i64 x.j) (AVal.int IntKind.i64 x.j) ∧ EqA (AVal.list (22 : Nat) x.read) (AVal.list (22 : Nat) x.read)
  ∧ EqA (AVal.int IntKind.u64 x.t) (AVal.int IntKind.u64 x.t) ∧ EqA (AVal.int IntKind.i64 x.ret) (AVal.int IntKind.i64 x.ret) ∧ EqA (AVal.bool x.give) (AVal.bool x.give) ∧
  True) ∧ (True ∧ EqA (AVal.int IntKind.i64 (nowX x).line) (AVal.int IntKind.i64 (nowX x).line) ∧ EqA (AVal.int IntKind.i64 (nowX x).op.k) (AVal.int IntKind.i64 (nowX
  x).op.k) ∧ EqA (AVal.int IntKind.u64 (nowX x).op.t) (AVal.int IntKind.u64 (nowX x).op.t) ∧ EqA (AVal.int IntKind.u64 (nowX x).op.x) (AVal.int IntKind.u64 (nowX x).op.x) ∧
  EqA (AVal.int IntKind.i64 (nowX x).op.s) (AVal.int IntKind.i64 (nowX x).op.s) ∧ EqA (AVal.bool (nowX x).op.u) (AVal.bool (nowX x).op.u) ∧ EqA (AVal.int IntKind.i64 (nowX
  x).op.b) (AVal.int IntKind.i64 (nowX x).op.b) ∧ EqA (AVal.int IntKind.i64 (nowX x).op.n) (AVal.int IntKind.i64 (nowX x).op.n) ∧ EqA (AVal.bool (nowX x).pin) (AVal.bool
  (nowX x).pin) ∧ EqA (AVal.int IntKind.u64 (nowX x).e) (AVal.int IntKind.u64 (nowX x).e) ∧ EqA (AVal.list (3 : Nat) (nowX x).rack) (AVal.list (3 : Nat) (nowX x).rack) ∧
  EqA (AVal.int IntKind.u64 (nowX x).t0) (AVal.int IntKind.u64 (nowX x).t0) ∧ EqA (AVal.list (3 : Nat) (nowX x).l0) (AVal.list (3 : Nat) (nowX x).l0) ∧ EqA (AVal.int
  IntKind.u64 (nowX x).t1) (AVal.int IntKind.u64 (nowX x).t1) ∧ EqA (AVal.list (3 : Nat) (nowX x).l1) (AVal.list (3 : Nat) (nowX x).l1) ∧ EqA (AVal.int IntKind.u64 (nowX
  x).t2) (AVal.int IntKind.u64 (nowX x).t2) ∧ EqA (AVal.list (3 : Nat) (nowX x).l2) (AVal.list (3 : Nat) (nowX x).l2) ∧ EqA (AVal.list (3 : Nat) (nowX x).hold) (AVal.list
  (3 : Nat) (nowX x).hold) ∧ EqA (AVal.int IntKind.i64 (nowX x).b) (AVal.int IntKind.i64 (nowX x).b) ∧ EqA (AVal.int IntKind.i64 (nowX x).k) (AVal.int IntKind.i64 (nowX
  x).k) ∧ EqA (AVal.int IntKind.i64 (nowX x).i) (AVal.int IntKind.i64 (nowX x).i) ∧ EqA (AVal.int IntKind.i64 (nowX x).c) (AVal.int IntKind.i64 (nowX x).c) ∧ EqA (AVal.int
  IntKind.i64 (nowX x).bor) (AVal.int IntKind.i64 (nowX x).bor) ∧ EqA (AVal.int IntKind.u64 (nowX x).h) (AVal.int IntKind.u64 (nowX x).h) ∧ EqA (AVal.int IntKind.u64 (nowX
  x).n) (AVal.int IntKind.u64 (nowX x).n) ∧ EqA (AVal.int IntKind.u64 (nowX x).v) (AVal.int IntKind.u64 (nowX x).v) ∧ EqA (AVal.int IntKind.u64 (nowX x).u) (AVal.int
  IntKind.u64 (nowX x).u) ∧ EqA (AVal.int IntKind.u64 (nowX x).g) (AVal.int IntKind.u64 (nowX x).g) ∧ EqA (AVal.int IntKind.i64 (nowX x).j) (AVal.int IntKind.i64 (nowX
  x).j) ∧ EqA (AVal.list (22 : Nat) (nowX x).read) (AVal.list (22 : Nat) (nowX x).read) ∧ EqA (AVal.int IntKind.u64 (nowX x).t) (AVal.int IntKind.u64 (nowX x).t) ∧ EqA
  (AVal.int IntKind.i64 (nowX x).ret) (AVal.int IntKind.i64 (nowX x).ret) ∧ EqA (AVal.bool (nowX x).give) (AVal.bool (nowX x).give) ∧ True) ∧ (True ∧ EqA (AVal.int
  IntKind.i64 (nowX x).line) (AVal.int IntKind.i64 (nowX x).line) ∧ EqA (AVal.int IntKind.i64 (nowX x).op.k) (AVal.int IntKind.i64 (nowX x).op.k) ∧ EqA (AVal.int
  IntKind.u64 (nowX x).op.t) (AVal.int IntKind.u64 (nowX x).op.t) ∧ EqA (AVal.int IntKind.u64 (nowX x).op.x) (AVal.int IntKind.u64 (nowX x).op.x) ∧ EqA (AVal.int
  IntKind.i64 (nowX x).op.s) (AVal.int IntKind.i64 (nowX x).op.s) ∧ EqA (AVal.bool (nowX x).op.u) (AVal.bool (nowX x).op.u) ∧ EqA (AVal.int IntKind.i64 (nowX x).op.b)
  (AVal.int IntKind.i64 (nowX x).op.b) ∧ EqA (AVal.int IntKind.i64 (nowX x).op.n) (AVal.int IntKind.i64 (nowX x).op.n) ∧ EqA (AVal.bool (nowX x).pin) (AVal.bool (nowX
  x).pin) ∧ EqA (AVal.int IntKind.u64 (nowX x).e) (AVal.int IntKind.u64 (nowX x).e) ∧ EqA (AVal.list (3 : Nat) (nowX x).rack) (AVal.list (3 : Nat) (nowX x).rack) ∧ EqA
  (AVal.int IntKind.u64 (nowX x).t0) (AVal.int IntKind.u64 (nowX x).t0) ∧ EqA (AVal.list (3 : Nat) (nowX x).l0) (AVal.list (3 : Nat) (nowX x).l0) ∧ EqA (AVal.int
  IntKind.u64 (nowX x).t1) (AVal.int IntKind.u64 (nowX x).t1) ∧ EqA (AVal.list (3 : Nat) (nowX x).l1) (AVal.list (3 : Nat) (nowX x).l1) ∧ EqA (AVal.int IntKind.u64 (nowX
  x).t2) (AVal.int IntKind.u64 (nowX x).t2) ∧ EqA (AVal.list (3 : Nat) (nowX x).l2) (AVal.list (3 : Nat) (nowX x).l2) ∧ EqA (AVal.list (3 : Nat) (nowX x).hold) (AVal.list
  (3 : Nat) (nowX x).hold) ∧ EqA (AVal.int IntKind.i64 (nowX x).b) (AVal.int IntKind.i64 (nowX x).b) ∧ EqA (AVal.int IntKind.i64 (nowX x).k) (AVal.int IntKind.i64 (nowX
  x).k) ∧ EqA (AVal.int IntKind.i64 (nowX x).i) (AVal.int IntKind.i64 (nowX x).i) ∧ EqA (AVal.int IntKind.i64 (nowX x).c) (AVal.int IntKind.i64 (nowX x).c) ∧ EqA (AVal.int
  IntKind.i64 (nowX x).bor) (AVal.int IntKind.i64 (nowX x).bor) ∧ EqA (AVal.int IntKind.u64 (nowX x).h) (AVal.int IntKind.u64 (nowX x).h) ∧ EqA (AVal.int IntKind.u64 (nowX
  x).n) (AVal.int IntKind.u64 (nowX x).n) ∧ EqA (AVal.int IntKind.u64 (nowX x).v) (AVal.int IntKind.u64 (nowX x).v) ∧ EqA (AVal.int IntKind.u64 (nowX x).u) (AVal.int
  IntKind.u64 (nowX x).u) ∧ EqA (AVal.int IntKind.u64 (nowX x).g) (AVal.int IntKind.u64 (nowX x).g) ∧ EqA (AVal.int IntKind.i64 (nowX x).j) (AVal.int IntKind.i64 (nowX
  x).j) ∧ EqA (AVal.list (22 : Nat) (nowX x).read) (AVal.list (22 : Nat) (nowX x).read) ∧ EqA (AVal.int IntKind.u64 (nowX x).t) (AVal.int IntKind.u64 (nowX x).t) ∧ EqA
  (AVal.int IntKind.i64 (nowX x).ret) (AVal.int IntKind.i64 (nowX x).ret) ∧ EqA (AVal.bool (nowX x).give) (AVal.bool (nowX x).give) ∧ True) ∧ True) ∧ True)) ((∃ (s0 : Nat),
  s0 ≤ List.length x.l1 ∧ (EqA (AVal.bool (false || hasS (List.take s x.l0) b)) (AVal.bool (hasS x.l0 b || hasS (List.take s0 x.l1) b)) ∧ EqA (AVal.int IntKind.i64 (0 :
  Int)) (AVal.int IntKind.i64 (↑s0 : Int)) ∧ True) ∧ ((True ∧ EqA (AVal.int IntKind.i64 x.line) (AVal.int IntKind.i64 x.line) ∧ EqA (AVal.int IntKind.i64 x.op.k) (AVal.int
  IntKind.i64 x.op.k) ∧ EqA (AVal.int IntKind.u64 x.op.t) (AVal.int IntKind.u64 x.op.t) ∧ EqA (AVal.int IntKind.u64 x.op.x) (AVal.int IntKind.u64 x.op.x) ∧ EqA (AVal.int
  IntKind.i64 x.op.s) (AVal.int IntKind.i64 x.op.s) ∧ EqA (AVal.bool x.op.u) (AVal.bool x.op.u) ∧ EqA (AVal.int IntKind.i64 x.op.b) (AVal.int IntKind.i64 x.op.b) ∧ EqA
  (AVal.int IntKind.i64 x.op.n) (AVal.int IntKind.i64 x.op.n) ∧ EqA (AVal.bool x.pin) (AVal.bool x.pin) ∧ EqA (AVal.int IntKind.u64 x.e) (AVal.int IntKind.u64 x.e) ∧ EqA
  (AVal.list (3 : Nat) x.rack) (AVal.list (3 : Nat) x.rack) ∧ EqA (AVal.int IntKind.u64 x.t0) (AVal.int IntKind.u64 x.t0) ∧ EqA (AVal.list (3 : Nat) x.l0) (AVal.list (3 :
  Nat) x.l0) ∧ EqA (AVal.int IntKind.u64 x.t1) (AVal.int IntKind.u64 x.t1) ∧ EqA (AVal.list (3 : Nat) x.l1) (AVal.list (3 : Nat) x.l1) ∧ EqA (AVal.int IntKind.u64 x.t2)
  (AVal.int IntKind.u64 x.t2) ∧ EqA (AVal.list (3 : Nat) x.l2) (AVal.list (3 : Nat) x.l2) ∧ EqA (AVal.list (3 : Nat) x.hold) (AVal.list (3 : Nat) x.hold) ∧ EqA (AVal.int
  IntKind.i64 x.b) (AVal.int IntKind.i64 x.b) ∧ EqA (AVal.int IntKind.i64 x.k) (AVal.int IntKind.i64 x.k) ∧ EqA (AVal.int IntKind.i64 x.i) (AVal.int IntKind.i64 x.i) ∧ EqA
  (AVal.int IntKind.i64 x.c) (AVal.int IntKind.i64 x.c) ∧ EqA (AVal.int IntKind.i64 x.bor) (AVal.int IntKind.i64 x.bor) ∧ EqA (AVal.int IntKind.u64 x.h) (AVal.int
  IntKind.u64 x.h) ∧ EqA (AVal.int IntKind.u64 x.n) (AVal.int IntKind.u64 x.n) ∧ EqA (AVal.int IntKind.u64 x.v) (AVal.int IntKind.u64 x.v) ∧ EqA (AVal.int IntKind.u64 x.u)
  (AVal.int IntKind.u64 x.u) ∧ EqA (AVal.int IntKind.u64 x.g) (AVal.int IntKind.u64 x.g) ∧ EqA (AVal.int IntKind.i64 x.j) (AVal.int IntKind.i64 x.j) ∧ EqA (AVal.list (22 :
  Nat) x.read) (AVal.list (22 : Nat) x.read) ∧ EqA (AVal.int IntKind.u64 x.t) (AVal.int IntKind.u64 x.t) ∧ EqA (AVal.int IntKind.i64 x.ret) (AVal.int IntKind.i64 x.ret) ∧
  EqA (AVal.bool x.give) (AVal.bool x.give) ∧ True) ∧ (True ∧ EqA (AVal.int IntKind.i64 x.line) (AVal.int IntKind.i64 x.line) ∧ EqA (AVal.int IntKind.i64 x.op.k) (AVal.int
  IntKind.i64 x.op.k) ∧ EqA (AVal.int IntKind.u64 x.op.t) (AVal.int IntKind.u64 x.op.t) ∧ EqA (AVal.int IntKind.u64 x.op.x) (AVal.int IntKind.u64 x.op.x) ∧ EqA (AVal.int
  IntKind.i64 x.op.s) (AVal.int IntKind.i64 x.op.s) ∧ EqA (AVal.bool x.op.u) (AVal.bool x.op.u) ∧ EqA (AVal.int IntKind.i64 x.op.b) (AVal.int IntKind.i64 x.op.b) ∧ EqA
  (AVal.int IntKind.i64 x.op.n) (AVal.int IntKind.i64 x.op.n) ∧ EqA (AVal.bool x.pin) (AVal.bool x.pin) ∧ EqA (AVal.int IntKind.u64 x.e) (AVal.int IntKind.u64 x.e) ∧ EqA
  (AVal.list (3 : Nat) x.rack) (AVal.list (3 : Nat) x.rack) ∧ EqA (AVal.int IntKind.u64 x.t0) (AVal.int IntKind.u64 x.t0) ∧ EqA (AVal.list (3 : Nat) x.l0) (AVal.list (3 :
  Nat) x.l0) ∧ EqA (AVal.int IntKind.u64 x.t1) (AVal.int IntKind.u64 x.t1) ∧ EqA (AVal.list (3 : Nat) x.l1) (AVal.list (3 : Nat) x.l1) ∧ EqA (AVal.int IntKind.u64 x.t2)
  (AVal.int IntKind.u64 x.t2) ∧ EqA (AVal.list (3 : Nat) x.l2) (AVal.list (3 : Nat) x.l2) ∧ EqA (AVal.list (3 : Nat) x.hold) (AVal.list (3 : Nat) x.hold) ∧ EqA (AVal.int
  IntKind.i64 x.b) (AVal.int IntKind.i64 x.b) ∧ EqA (AVal.int IntKind.i64 x.k) (AVal.int IntKind.i64 x.k) ∧ EqA (AVal.int IntKind.i64 x.i) (AVal.int IntKind.i64 x.i) ∧ EqA
  (AVal.int IntKind.i64 x.c) (AVal.int IntKind.i64 x.c) ∧ EqA (AVal.int IntKind.i64 x.bor) (AVal.int IntKind.i64 x.bor) ∧ EqA (AVal.int IntKind.u64 x.h) (AVal.int
  IntKind.u64 x.h) ∧ EqA (AVal.int IntKind.u64 x.n) (AVal.int IntKind.u64 x.n) ∧ EqA (AVal.int IntKind.u64 x.v) (AVal.int IntKind.u64 x.v) ∧ EqA (AVal.int IntKind.u64 x.u)
  (AVal.int IntKind.u64 x.u) ∧ EqA (AVal.int IntKind.u64 x.g) (AVal.int IntKind.u64 x.g) ∧ EqA (AVal.int IntKind.i64 x.j) (AVal.int IntKind.i64 x.j) ∧ EqA (AVal.list (22 :
  Nat) x.read) (AVal.list (22 : Nat) x.read) ∧ EqA (AVal.int IntKind.u64 x.t) (AVal.int IntKind.u64 x.t) ∧ EqA (AVal.int IntKind.i64 x.ret) (AVal.int IntKind.i64 x.ret) ∧
  EqA (AVal.bool x.give) (AVal.bool x.give) ∧ True) ∧ (True ∧ EqA (AVal.int IntKind.i64 (nowX x).line) (AVal.int IntKind.i64 (nowX x).line) ∧ EqA (AVal.int IntKind.i64
  (nowX x).op.k) (AVal.int IntKind.i64 (nowX x).op.k) ∧ EqA (AVal.int IntKind.u64 (nowX x).op.t) (AVal.int IntKind.u64 (nowX x).op.t) ∧ EqA (AVal.int IntKind.u64 (nowX
  x).op.x) (AVal.int IntKind.u64 (nowX x).op.x) ∧ EqA (AVal.int IntKind.i64 (nowX x).op.s) (AVal.int IntKind.i64 (nowX x).op.s) ∧ EqA (AVal.bool (nowX x).op.u) (AVal.bool
  (nowX x).op.u) ∧ EqA (AVal.int IntKind.i64 (nowX x).op.b) (AVal.int IntKind.i64 (nowX x).op.b) ∧ EqA (AVal.int IntKind.i64 (nowX x).op.n) (AVal.int IntKind.i64 (nowX
  x).op.n) ∧ EqA (AVal.bool (nowX x).pin) (AVal.bool (nowX x).pin) ∧ EqA (AVal.int IntKind.u64 (nowX x).e) (AVal.int IntKind.u64 (nowX x).e) ∧ EqA (AVal.list (3 : Nat)
  (nowX x).rack) (AVal.list (3 : Nat) (nowX x).rack) ∧ EqA (AVal.int IntKind.u64 (nowX x).t0) (AVal.int IntKind.u64 (nowX x).t0) ∧ EqA (AVal.list (3 : Nat) (nowX x).l0)
  (AVal.list (3 : Nat) (nowX x).l0) ∧ EqA (AVal.int IntKind.u64 (nowX x).t1) (AVal.int IntKind.u64 (nowX x).t1) ∧ EqA (AVal.list (3 : Nat) (nowX x).l1) (AVal.list (3 : Nat)
  (nowX x).l1) ∧ EqA (AVal.int IntKind.u64 (nowX x).t2) (AVal.int IntKind.u64 (nowX x).t2) ∧ EqA (AVal.list (3 : Nat) (nowX x).l2) (AVal.list (3 : Nat) (nowX x).l2) ∧ EqA
  (AVal.list (3 : Nat) (nowX x).hold) (AVal.list (3 : Nat) (nowX x).hold) ∧ EqA (AVal.int IntKind.i64 (nowX x).b) (AVal.int IntKind.i64 (nowX x).b) ∧ EqA (AVal.int
  IntKind.i64 (nowX x).k) (AVal.int IntKind.i64 (nowX x).k) ∧ EqA (AVal.int IntKind.i64 (nowX x).i) (AVal.int IntKind.i64 (nowX x).i) ∧ EqA (AVal.int IntKind.i64 (nowX
  x).c) (AVal.int IntKind.i64 (nowX x).c) ∧ EqA (AVal.int IntKind.i64 (nowX x).bor) (AVal.int IntKind.i64 (nowX x).bor) ∧ EqA (AVal.int IntKind.u64 (nowX x).h) (AVal.int
  IntKind.u64 (nowX x).h) ∧ EqA (AVal.int IntKind.u64 (nowX x).n) (AVal.int IntKind.u64 (nowX x).n) ∧ EqA (AVal.int IntKind.u64 (nowX x).v) (AVal.int IntKind.u64 (nowX
  x).v) ∧ EqA (AVal.int IntKind.u64 (nowX x).u) (AVal.int IntKind.u64 (nowX x).u) ∧ EqA (AVal.int IntKind.u64 (nowX x).g) (AVal.int IntKind.u64 (nowX x).g) ∧ EqA (AVal.int
  IntKind.i64 (nowX x).j) (AVal.int IntKind.i64 (nowX x).j) ∧ EqA (AVal.list (22 : Nat) (nowX x).read) (AVal.list (22 : Nat) (nowX x).read) ∧ EqA (AVal.int IntKind.u64
  (nowX x).t) (AVal.int IntKind.u64 (nowX x).t) ∧ EqA (AVal.int IntKind.i64 (nowX x).ret) (AVal.int IntKind.i64 (nowX x).ret) ∧ EqA (AVal.bool (nowX x).give) (AVal.bool
  (nowX x).give) ∧ True) ∧ (True ∧ EqA (AVal.int IntKind.i64 (nowX x).line) (AVal.int IntKind.i64 (nowX x).line) ∧ EqA (AVal.int IntKind.i64 (nowX x).op.k) (AVal.int
  IntKind.i64 (nowX x).op.k) ∧ EqA (AVal.int IntKind.u64 (nowX x).op.t) (AVal.int IntKind.u64 (nowX x).op.t) ∧ EqA (AVal.int IntKind.u64 (nowX x).op.x) (AVal.int
  IntKind.u64 (nowX x).op.x) ∧ EqA (AVal.int IntKind.i64 (nowX x).op.s) (AVal.int IntKind.i64 (nowX x).op.s) ∧ EqA (AVal.bool (nowX x).op.u) (AVal.bool (nowX x).op.u) ∧ EqA
  (AVal.int IntKind.i64 (nowX x).op.b) (AVal.int IntKind.i64 (nowX x).op.b) ∧ EqA (AVal.int IntKind.i64 (nowX x).op.n) (AVal.int IntKind.i64 (nowX x).op.n) ∧ EqA (AVal.bool
  (nowX x).pin) (AVal.bool (nowX x).pin) ∧ EqA (AVal.int IntKind.u64 (nowX x).e) (AVal.int IntKind.u64 (nowX x).e) ∧ EqA (AVal.list (3 : Nat) (nowX x).rack) (AVal.list (3 :
  Nat) (nowX x).rack) ∧ EqA (AVal.int IntKind.u64 (nowX x).t0) (AVal.int IntKind.u64 (nowX x).t0) ∧ EqA (AVal.list (3 : Nat) (nowX x).l0) (AVal.list (3 : Nat) (nowX x).l0)
  ∧ EqA (AVal.int IntKind.u64 (nowX x).t1) (AVal.int IntKind.u64 (nowX x).t1) ∧ EqA (AVal.list (3 : Nat) (nowX x).l1) (AVal.list (3 : Nat) (nowX x).l1) ∧ EqA (AVal.int
  IntKind.u64 (nowX x).t2) (AVal.int IntKind.u64 (nowX x).t2) ∧ EqA (AVal.list (3 : Nat) (nowX x).l2) (AVal.list (3 : Nat) (nowX x).l2) ∧ EqA (AVal.list (3 : Nat) (nowX
  x).hold) (AVal.list (3 : Nat) (nowX x).hold) ∧ EqA (AVal.int IntKind.i64 (nowX x).b) (AVal.int IntKind.i64 (nowX x).b) ∧ EqA (AVal.int IntKind.i64 (nowX x).k) (AVal.int
  IntKind.i64 (nowX x).k) ∧ EqA (AVal.int IntKind.i64 (nowX x).i) (AVal.int IntKind.i64 (nowX x).i) ∧ EqA (AVal.int IntKind.i64 (nowX x).c) (AVal.int IntKind.i64 (nowX
  x).c) ∧ EqA (AVal.int IntKind.i64 (nowX x).bor) (AVal.int IntKind.i64 (nowX x).bor) ∧ EqA (AVal.int IntKind.u64 (nowX x).h) (AVal.int IntKind.u64 (nowX x).h) ∧ EqA
  (AVal.int IntKind.u64 (nowX x).n) (AVal.int IntKind.u64 (nowX x).n) ∧ EqA (AVal.int IntKind.u64 (nowX x).v) (AVal.int IntKind.u64 (nowX x).v) ∧ EqA (AVal.int IntKind.u64
  (nowX x).u) (AVal.int IntKind.u64 (nowX x).u) ∧ EqA (AVal.int IntKind.u64 (nowX x).g) (AVal.int IntKind.u64 (nowX x).g) ∧ EqA (AVal.int IntKind.i64 (nowX x).j) (AVal.int
  IntKind.i64 (nowX x).j) ∧ EqA (AVal.list (22 : Nat) (nowX x).read) (AVal.list (22 : Nat) (nowX x).read) ∧ EqA (AVal.int IntKind.u64 (nowX x).t) (AVal.int IntKind.u64
  (nowX x).t) ∧ EqA (AVal.int IntKind.i64 (nowX x).ret) (AVal.int IntKind.i64 (nowX x).ret) ∧ EqA (AVal.bool (nowX x).give) (AVal.bool (nowX x).give) ∧ True) ∧ True) ∧
  True) ∧ ∀ (s : Nat), s ≤ List.length x.l1 → cnd (decide ((↑s : Int) < (↑(List.length x.l1) : Int))) (cnd ((hasS x.l0 b || hasS (List.take s x.l1) b) == false) (((0 : Int)
  ≤ (↑s : Int) ∧ (↑s : Int) < (↑(List.length x.l1) : Int)) ∧ ∃ (s' : Nat), s' ≤ List.length x.l1 ∧ List.length x.l1 - s' < List.length x.l1 - s ∧ (EqA (AVal.bool (List.getD
  x.l1 (Int.toNat (↑s : Int)) (0 : Int) == b)) (AVal.bool (hasS x.l0 b || hasS (List.take s' x.l1) b)) ∧ EqA (AVal.int IntKind.i64 (IntKind.wrap IntKind.i64 ((↑s : Int) +
  (1 : Int)))) (AVal.int IntKind.i64 (↑s' : Int)) ∧ True) ∧ ((True ∧ EqA (AVal.int IntKind.i64 x.line) (AVal.int IntKind.i64 x.line) ∧ EqA (AVal.int IntKind.i64 x.op.k)
  (AVal.int IntKind.i64 x.op.k) ∧ EqA (AVal.int IntKind.u64 x.op.t) (AVal.int IntKind.u64 x.op.t) ∧ EqA (AVal.int IntKind.u64 x.op.x) (AVal.int IntKind.u64 x.op.x) ∧ EqA
  (AVal.int IntKind.i64 x.op.s) (AVal.int IntKind.i64 x.op.s) ∧ EqA (AVal.bool x.op.u) (AVal.bool x.op.u) ∧ EqA (AVal.int IntKind.i64 x.op.b) (AVal.int IntKind.i64 x.op.b)
  ∧ EqA (AVal.int IntKind.i64 x.op.n) (AVal.int IntKind.i64 x.op.n) ∧ EqA (AVal.bool x.pin) (AVal.bool x.pin) ∧ EqA (AVal.int IntKind.u64 x.e) (AVal.int IntKind.u64 x.e) ∧
  EqA (AVal.list (3 : Nat) x.rack) (AVal.list (3 : Nat) x.rack) ∧ EqA (AVal.int IntKind.u64 x.t0) (AVal.int IntKind.u64 x.t0) ∧ EqA (AVal.list (3 : Nat) x.l0) (AVal.list (3
  : Nat) x.l0) ∧ EqA (AVal.int IntKind.u64 x.t1) (AVal.int IntKind.u64 x.t1) ∧ EqA (AVal.list (3 : Nat) x.l1) (AVal.list (3 : Nat) x.l1) ∧ EqA (AVal.int IntKind.u64 x.t2)
  (AVal.int IntKind.u64 x.t2) ∧ EqA (AVal.list (3 : Nat) x.l2) (AVal.list (3 : Nat) x.l2) ∧ EqA (AVal.list (3 : Nat) x.hold) (AVal.list (3 : Nat) x.hold) ∧ EqA (AVal.int
  IntKind.i64 x.b) (AVal.int IntKind.i64 x.b) ∧ EqA (AVal.int IntKind.i64 x.k) (AVal.int IntKind.i64 x.k) ∧ EqA (AVal.int IntKind.i64 x.i) (AVal.int IntKind.i64 x.i) ∧ EqA
  (AVal.int IntKind.i64 x.c) (AVal.int IntKind.i64 x.c) ∧ EqA (AVal.int IntKind.i64 x.bor) (AVal.int IntKind.i64 x.bor) ∧ EqA (AVal.int IntKind.u64 x.h) (AVal.int
  IntKind.u64 x.h) ∧ EqA (AVal.int IntKind.u64 x.n) (AVal.int IntKind.u64 x.n) ∧ EqA (AVal.int IntKind.u64 x.v) (AVal.int IntKind.u64 x.v) ∧ EqA (AVal.int IntKind.u64 x.u)
  (AVal.int IntKind.u64 x.u) ∧ EqA (AVal.int IntKind.u64 x.g) (AVal.int IntKind.u64 x.g) ∧ EqA (AVal.int IntKind.i64 x.j) (AVal.int IntKind.i64 x.j) ∧ EqA (AVal.list (22 :
  Nat) x.read) (AVal.list (22 : Nat) x.read) ∧ EqA (AVal.int IntKind.u64 x.t) (AVal.int IntKind.u64 x.t) ∧ EqA (AVal.int IntKind.i64 x.ret) (AVal.int IntKind.i64 x.ret) ∧
  EqA (AVal.bool x.give) (AVal.bool x.give) ∧ True) ∧ (True ∧ EqA (AVal.int IntKind.i64 x.line) (AVal.int IntKind.i64 x.line) ∧ EqA (AVal.int IntKind.i64 x.op.k) (AVal.int
  IntKind.i64 x.op.k) ∧ EqA (AVal.int IntKind.u64 x.op.t) (AVal.int IntKind.u64 x.op.t) ∧ EqA (AVal.int IntKind.u64 x.op.x) (AVal.int IntKind.u64 x.op.x) ∧ EqA (AVal.int
  IntKind.i64 x.op.s) (AVal.int IntKind.i64 x.op.s) ∧ EqA (AVal.bool x.op.u) (AVal.bool x.op.u) ∧ EqA (AVal.int IntKind.i64 x.op.b) (AVal.int IntKind.i64 x.op.b) ∧ EqA
  (AVal.int IntKind.i64 x.op.n) (AVal.int IntKind.i64 x.op.n) ∧ EqA (AVal.bool x.pin) (AVal.bool x.pin) ∧ EqA (AVal.int IntKind.u64 x.e) (AVal.int IntKind.u64 x.e) ∧ EqA
  (AVal.list (3 : Nat) x.rack) (AVal.list (3 : Nat) x.rack) ∧ EqA (AVal.int IntKind.u64 x.t0) (AVal.int IntKind.u64 x.t0) ∧ EqA (AVal.list (3 : Nat) x.l0) (AVal.list (3 :
  Nat) x.l0) ∧ EqA (AVal.int IntKind.u64 x.t1) (AVal.int IntKind.u64 x.t1) ∧ EqA (AVal.list (3 : Nat) x.l1) (AVal.list (3 : Nat) x.l1) ∧ EqA (AVal.int IntKind.u64 x.t2)
  (AVal.int IntKind.u64 x.t2) ∧ EqA (AVal.list (3 : Nat) x.l2) (AVal.list (3 : Nat) x.l2) ∧ EqA (AVal.list (3 : Nat) x.hold) (AVal.list (3 : Nat) x.hold) ∧ EqA (AVal.int
  IntKind.i64 x.b) (AVal.int IntKind.i64 x.b) ∧ EqA (AVal.int IntKind.i64 x.k) (AVal.int IntKind.i64 x.k) ∧ EqA (AVal.int IntKind.i64 x.i) (AVal.int IntKind.i64 x.i) ∧ EqA
  (AVal.int IntKind.i64 x.c) (AVal.int IntKind.i64 x.c) ∧ EqA (AVal.int IntKind.i64 x.bor) (AVal.int IntKind.i64 x.bor) ∧ EqA (AVal.int IntKind.u64 x.h) (AVal.int
  IntKind.u64 x.h) ∧ EqA (AVal.int IntKind.u64 x.n) (AVal.int IntKind.u64 x.n) ∧ EqA (AVal.int IntKind.u64 x.v) (AVal.int IntKind.u64 x.v) ∧ EqA (AVal.int IntKind.u64 x.u)
  (AVal.int IntKind.u64 x.u) ∧ EqA (AVal.int IntKind.u64 x.g) (AVal.int IntKind.u64 x.g) ∧ EqA (AVal.int IntKind.i64 x.j) (AVal.int IntKind.i64 x.j) ∧ EqA (AVal.list (22 :
  Nat) x.read) (AVal.list (22 : Nat) x.read) ∧ EqA (AVal.int IntKind.u64 x.t) (AVal.int IntKind.u64 x.t) ∧ EqA (AVal.int IntKind.i64 x.ret) (AVal.int IntKind.i64 x.ret) ∧
  EqA (AVal.bool x.give) (AVal.bool x.give) ∧ True) ∧ (True ∧ EqA (AVal.int IntKind.i64 (nowX x).line) (AVal.int IntKind.i64 (nowX x).line) ∧ EqA (AVal.int IntKind.i64
  (nowX x).op.k) (AVal.int IntKind.i64 (nowX x).op.k) ∧ EqA (AVal.int IntKind.u64 (nowX x).op.t) (AVal.int IntKind.u64 (nowX x).op.t) ∧ EqA (AVal.int IntKind.u64 (nowX
  x).op.x) (AVal.int IntKind.u64 (nowX x).op.x) ∧ EqA (AVal.int IntKind.i64 (nowX x).op.s) (AVal.int IntKind.i64 (nowX x).op.s) ∧ EqA (AVal.bool (nowX x).op.u) (AVal.bool
  (nowX x).op.u) ∧ EqA (AVal.int IntKind.i64 (nowX x).op.b) (AVal.int IntKind.i64 (nowX x).op.b) ∧ EqA (AVal.int IntKind.i64 (nowX x).op.n) (AVal.int IntKind.i64 (nowX
  x).op.n) ∧ EqA (AVal.bool (nowX x).pin) (AVal.bool (nowX x).pin) ∧ EqA (AVal.int IntKind.u64 (nowX x).e) (AVal.int IntKind.u64 (nowX x).e) ∧ EqA (AVal.list (3 : Nat)
  (nowX x).rack) (AVal.list (3 : Nat) (nowX x).rack) ∧ EqA (AVal.int IntKind.u64 (nowX x).t0) (AVal.int IntKind.u64 (nowX x).t0) ∧ EqA (AVal.list (3 : Nat) (nowX x).l0)
  (AVal.list (3 : Nat) (nowX x).l0) ∧ EqA (AVal.int IntKind.u64 (nowX x).t1) (AVal.int IntKind.u64 (nowX x).t1) ∧ EqA (AVal.list (3 : Nat) (nowX x).l1) (AVal.list (3 : Nat)
  (nowX x).l1) ∧ EqA (AVal.int IntKind.u64 (nowX x).t2) (AVal.int IntKind.u64 (nowX x).t2) ∧ EqA (AVal.list (3 : Nat) (nowX x).l2) (AVal.list (3 : Nat) (nowX x).l2) ∧ EqA
  (AVal.list (3 : Nat) (nowX x).hold) (AVal.list (3 : Nat) (nowX x).hold) ∧ EqA (AVal.int IntKind.i64 (nowX x).b) (AVal.int IntKind.i64 (nowX x).b) ∧ EqA (AVal.int
  IntKind.i64 (nowX x).k) (AVal.int IntKind.i64 (nowX x).k) ∧ EqA (AVal.int IntKind.i64 (nowX x).i) (AVal.int IntKind.i64 (nowX x).i) ∧ EqA (AVal.int IntKind.i64 (nowX
  x).c) (AVal.int IntKind.i64 (nowX x).c) ∧ EqA (AVal.int IntKind.i64 (nowX x).bor) (AVal.int IntKind.i64 (nowX x).bor) ∧ EqA (AVal.int IntKind.u64 (nowX x).h) (AVal.int
  IntKind.u64 (nowX x).h) ∧ EqA (AVal.int IntKind.u64 (nowX x).n) (AVal.int IntKind.u64 (nowX x).n) ∧ EqA (AVal.int IntKind.u64 (nowX x).v) (AVal.int IntKind.u64 (nowX
  x).v) ∧ EqA (AVal.int IntKind.u64 (nowX x).u) (AVal.int IntKind.u64 (nowX x).u) ∧ EqA (AVal.int IntKind.u64 (nowX x).g) (AVal.int IntKind.u64 (nowX x).g) ∧ EqA (AVal.int
  IntKind.i64 (nowX x).j) (AVal.int IntKind.i64 (nowX x).j) ∧ EqA (AVal.list (22 : Nat) (nowX x).read) (AVal.list (22 : Nat) (nowX x).read) ∧ EqA (AVal.int IntKind.u64
  (nowX x).t) (AVal.int IntKind.u64 (nowX x).t) ∧ EqA (AVal.int IntKind.i64 (nowX x).ret) (AVal.int IntKind.i64 (nowX x).ret) ∧ EqA (AVal.bool (nowX x).give) (AVal.bool
  (nowX x).give) ∧ True) ∧ (True ∧ EqA (AVal.int IntKind.i64 (nowX x).line) (AVal.int IntKind.i64 (nowX x).line) ∧ EqA (AVal.int IntKind.i64 (nowX x).op.k) (AVal.int
  IntKind.i64 (nowX x).op.k) ∧ EqA (AVal.int IntKind.u64 (nowX x).op.t) (AVal.int IntKind.u64 (nowX x).op.t) ∧ EqA (AVal.int IntKind.u64 (nowX x).op.x) (AVal.int
  IntKind.u64 (nowX x).op.x) ∧ EqA (AVal.int IntKind.i64 (nowX x).op.s) (AVal.int IntKind.i64 (nowX x).op.s) ∧ EqA (AVal.bool (nowX x).op.u) (AVal.bool (nowX x).op.u) ∧ EqA
  (AVal.int IntKind.i64 (nowX x).op.b) (AVal.int IntKind.i64 (nowX x).op.b) ∧ EqA (AVal.int IntKind.i64 (nowX x).op.n) (AVal.int IntKind.i64 (nowX x).op.n) ∧ EqA (AVal.bool
  (nowX x).pin) (AVal.bool (nowX x).pin) ∧ EqA (AVal.int IntKind.u64 (nowX x).e) (AVal.int IntKind.u64 (nowX x).e) ∧ EqA (AVal.list (3 : Nat) (nowX x).rack) (AVal.list (3 :
  Nat) (nowX x).rack) ∧ EqA (AVal.int IntKind.u64 (nowX x).t0) (AVal.int IntKind.u64 (nowX x).t0) ∧ EqA (AVal.list (3 : Nat) (nowX x).l0) (AVal.list (3 : Nat) (nowX x).l0)
  ∧ EqA (AVal.int IntKind.u64 (nowX x).t1) (AVal.int IntKind.u64 (nowX x).t1) ∧ EqA (AVal.list (3 : Nat) (nowX x).l1) (AVal.list (3 : Nat) (nowX x).l1) ∧ EqA (AVal.int
  IntKind.u64 (nowX x).t2) (AVal.int IntKind.u64 (nowX x).t2) ∧ EqA (AVal.list (3 : Nat) (nowX x).l2) (AVal.list (3 : Nat) (nowX x).l2) ∧ EqA (AVal.list (3 : Nat) (nowX
  x).hold) (AVal.list (3 : Nat) (nowX x).hold) ∧ EqA (AVal.int IntKind.i64 (nowX x).b) (AVal.int IntKind.i64 (nowX x).b) ∧ EqA (AVal.int IntKind.i64 (nowX x).k) (AVal.int
  IntKind.i64 (nowX x).k) ∧ EqA (AVal.int IntKind.i64 (nowX x).i) (AVal.int IntKind.i64 (nowX x).i) ∧ EqA (AVal.int IntKind.i64 (nowX x).c) (AVal.int IntKind.i64 (nowX
  x).c) ∧ EqA (AVal.int IntKind.i64 (nowX x).bor) (AVal.int IntKind.i64 (nowX x).bor) ∧ EqA (AVal.int IntKind.u64 (nowX x).h) (AVal.int IntKind.u64 (nowX x).h) ∧ EqA
  (AVal.int IntKind.u64 (nowX x).n) (AVal.int IntKind.u64 (nowX x).n) ∧ EqA (AVal.int IntKind.u64 (nowX x).v) (AVal.int IntKind.u64 (nowX x).v) ∧ EqA (AVal.int IntKind.u64
  (nowX x).u) (AVal.int IntKind.u64 (nowX x).u) ∧ EqA (AVal.int IntKind.u64 (nowX x).g) (AVal.int IntKind.u64 (nowX x).g) ∧ EqA (AVal.int IntKind.i64 (nowX x).j) (AVal.int
  IntKind.i64 (nowX x).j) ∧ EqA (AVal.list (22 : Nat) (nowX x).read) (AVal.list (22 : Nat) (nowX x).read) ∧ EqA (AVal.int IntKind.u64 (nowX x).t) (AVal.int IntKind.u64
  (nowX x).t) ∧ EqA (AVal.int IntKind.i64 (nowX x).ret) (AVal.int IntKind.i64 (nowX x).ret) ∧ EqA (AVal.bool (nowX x).give) (AVal.bool (nowX x).give) ∧ True) ∧ True) ∧
  True) (∃ (s' : Nat), s' ≤ List.length x.l1 ∧ List.length x.l1 - s' < List.length x.l1 - s ∧ (EqA (AVal.bool true) (AVal.bool (hasS x.l0 b || hasS (List.take s' x.l1) b))
  ∧ EqA (AVal.int IntKind.i64 (IntKind.wrap IntKind.i64 ((↑s : Int) + (1 : Int)))) (AVal.int IntKind.i64 (↑s' : Int)) ∧ True) ∧ ((True ∧ EqA (AVal.int IntKind.i64 x.line)
  (AVal.int IntKind.i64 x.line) ∧ EqA (AVal.int IntKind.i64 x.op.k) (AVal.int IntKind.i64 x.op.k) ∧ EqA (AVal.int IntKind.u64 x.op.t) (AVal.int IntKind.u64 x.op.t) ∧ EqA
  (AVal.int IntKind.u64 x.op.x) (AVal.int IntKind.u64 x.op.x) ∧ EqA (AVal.int IntKind.i64 x.op.s) (AVal.int IntKind.i64 x.op.s) ∧ EqA (AVal.bool x.op.u) (AVal.bool x.op.u)
  ∧ EqA (AVal.int IntKind.i64 x.op.b) (AVal.int IntKind.i64 x.op.b) ∧ EqA (AVal.int IntKind.i64 x.op.n) (AVal.int IntKind.i64 x.op.n) ∧ EqA (AVal.bool x.pin) (AVal.bool
  x.pin) ∧ EqA (AVal.int IntKind.u64 x.e) (AVal.int IntKind.u64 x.e) ∧ EqA (AVal.list (3 : Nat) x.rack) (AVal.list (3 : Nat) x.rack) ∧ EqA (AVal.int IntKind.u64 x.t0)
  (AVal.int IntKind.u64 x.t0) ∧ EqA (AVal.list (3 : Nat) x.l0) (AVal.list (3 : Nat) x.l0) ∧ EqA (AVal.int IntKind.u64 x.t1) (AVal.int IntKind.u64 x.t1) ∧ EqA (AVal.list (3
  : Nat) x.l1) (AVal.list (3 : Nat) x.l1) ∧ EqA (AVal.int IntKind.u64 x.t2) (AVal.int IntKind.u64 x.t2) ∧ EqA (AVal.list (3 : Nat) x.l2) (AVal.list (3 : Nat) x.l2) ∧ EqA
  (AVal.list (3 : Nat) x.hold) (AVal.list (3 : Nat) x.hold) ∧ EqA (AVal.int IntKind.i64 x.b) (AVal.int IntKind.i64 x.b) ∧ EqA (AVal.int IntKind.i64 x.k) (AVal.int
  IntKind.i64 x.k) ∧ EqA (AVal.int IntKind.i64 x.i) (AVal.int IntKind.i64 x.i) ∧ EqA (AVal.int IntKind.i64 x.c) (AVal.int IntKind.i64 x.c) ∧ EqA (AVal.int IntKind.i64
  x.bor) (AVal.int IntKind.i64 x.bor) ∧ EqA (AVal.int IntKind.u64 x.h) (AVal.int IntKind.u64 x.h) ∧ EqA (AVal.int IntKind.u64 x.n) (AVal.int IntKind.u64 x.n) ∧ EqA
  (AVal.int IntKind.u64 x.v) (AVal.int IntKind.u64 x.v) ∧ EqA (AVal.int IntKind.u64 x.u) (AVal.int IntKind.u64 x.u) ∧ EqA (AVal.int IntKind.u64 x.g) (AVal.int IntKind.u64
  x.g) ∧ EqA (AVal.int IntKind.i64 x.j) (AVal.int IntKind.i64 x.j) ∧ EqA (AVal.list (22 : Nat) x.read) (AVal.list (22 : Nat) x.read) ∧ EqA (AVal.int IntKind.u64 x.t)
  (AVal.int IntKind.u64 x.t) ∧ EqA (AVal.int IntKind.i64 x.ret) (AVal.int IntKind.i64 x.ret) ∧ EqA (AVal.bool x.give) (AVal.bool x.give) ∧ True) ∧ (True ∧ EqA (AVal.int
  IntKind.i64 x.line) (AVal.int IntKind.i64 x.line) ∧ EqA (AVal.int IntKind.i64 x.op.k) (AVal.int IntKind.i64 x.op.k) ∧ EqA (AVal.int IntKind.u64 x.op.t) (AVal.int
  IntKind.u64 x.op.t) ∧ EqA (AVal.int IntKind.u64 x.op.x) (AVal.int IntKind.u64 x.op.x) ∧ EqA (AVal.int IntKind.i64 x.op.s) (AVal.int IntKind.i64 x.op.s) ∧ EqA (AVal.bool
  x.op.u) (AVal.bool x.op.u) ∧ EqA (AVal.int IntKind.i64 x.op.b) (AVal.int IntKind.i64 x.op.b) ∧ EqA (AVal.int IntKind.i64 x.op.n) (AVal.int IntKind.i64 x.op.n) ∧ EqA
  (AVal.bool x.pin) (AVal.bool x.pin) ∧ EqA (AVal.int IntKind.u64 x.e) (AVal.int IntKind.u64 x.e) ∧ EqA (AVal.list (3 : Nat) x.rack) (AVal.list (3 : Nat) x.rack) ∧ EqA
  (AVal.int IntKind.u64 x.t0) (AVal.int IntKind.u64 x.t0) ∧ EqA (AVal.list (3 : Nat) x.l0) (AVal.list (3 : Nat) x.l0) ∧ EqA (AVal.int IntKind.u64 x.t1) (AVal.int
  IntKind.u64 x.t1) ∧ EqA (AVal.list (3 : Nat) x.l1) (AVal.list (3 : Nat) x.l1) ∧ EqA (AVal.int IntKind.u64 x.t2) (AVal.int IntKind.u64 x.t2) ∧ EqA (AVal.list (3 : Nat)
  x.l2) (AVal.list (3 : Nat) x.l2) ∧ EqA (AVal.list (3 : Nat) x.hold) (AVal.list (3 : Nat) x.hold) ∧ EqA (AVal.int IntKind.i64 x.b) (AVal.int IntKind.i64 x.b) ∧ EqA
  (AVal.int IntKind.i64 x.k) (AVal.int IntKind.i64 x.k) ∧ EqA (AVal.int IntKind.i64 x.i) (AVal.int IntKind.i64 x.i) ∧ EqA (AVal.int IntKind.i64 x.c) (AVal.int IntKind.i64
  x.c) ∧ EqA (AVal.int IntKind.i64 x.bor) (AVal.int IntKind.i64 x.bor) ∧ EqA (AVal.int IntKind.u64 x.h) (AVal.int IntKind.u64 x.h) ∧ EqA (AVal.int IntKind.u64 x.n)
  (AVal.int IntKind.u64 x.n) ∧ EqA (AVal.int IntKind.u64 x.v) (AVal.int IntKind.u64 x.v) ∧ EqA (AVal.int IntKind.u64 x.u) (AVal.int IntKind.u64 x.u) ∧ EqA (AVal.int
  IntKind.u64 x.g) (AVal.int IntKind.u64 x.g) ∧ EqA (AVal.int IntKind.i64 x.j) (AVal.int IntKind.i64 x.j) ∧ EqA (AVal.list (22 : Nat) x.read) (AVal.list (22 : Nat) x.read)
  ∧ EqA (AVal.int IntKind.u64 x.t) (AVal.int IntKind.u64 x.t) ∧ EqA (AVal.int IntKind.i64 x.ret) (AVal.int IntKind.i64 x.ret) ∧ EqA (AVal.bool x.give) (AVal.bool x.give) ∧
  True) ∧ (True ∧ EqA (AVal.int IntKind.i64 (nowX x).line) (AVal.int IntKind.i64 (nowX x).line) ∧ EqA (AVal.int IntKind.i64 (nowX x).op.k) (AVal.int IntKind.i64 (nowX
  x).op.k) ∧ EqA (AVal.int IntKind.u64 (nowX x).op.t) (AVal.int IntKind.u64 (nowX x).op.t) ∧ EqA (AVal.int IntKind.u64 (nowX x).op.x) (AVal.int IntKind.u64 (nowX x).op.x) ∧
  EqA (AVal.int IntKind.i64 (nowX x).op.s) (AVal.int IntKind.i64 (nowX x).op.s) ∧ EqA (AVal.bool (nowX x).op.u) (AVal.bool (nowX x).op.u) ∧ EqA (AVal.int IntKind.i64 (nowX
  x).op.b) (AVal.int IntKind.i64 (nowX x).op.b) ∧ EqA (AVal.int IntKind.i64 (nowX x).op.n) (AVal.int IntKind.i64 (nowX x).op.n) ∧ EqA (AVal.bool (nowX x).pin) (AVal.bool
  (nowX x).pin) ∧ EqA (AVal.int IntKind.u64 (nowX x).e) (AVal.int IntKind.u64 (nowX x).e) ∧ EqA (AVal.list (3 : Nat) (nowX x).rack) (AVal.list (3 : Nat) (nowX x).rack) ∧
  EqA (AVal.int IntKind.u64 (nowX x).t0) (AVal.int IntKind.u64 (nowX x).t0) ∧ EqA (AVal.list (3 : Nat) (nowX x).l0) (AVal.list (3 : Nat) (nowX x).l0) ∧ EqA (AVal.int
  IntKind.u64 (nowX x).t1) (AVal.int IntKind.u64 (nowX x).t1) ∧ EqA (AVal.list (3 : Nat) (nowX x).l1) (AVal.list (3 : Nat) (nowX x).l1) ∧ EqA (AVal.int IntKind.u64 (nowX
  x).t2) (AVal.int IntKind.u64 (nowX x).t2) ∧ EqA (AVal.list (3 : Nat) (nowX x).l2) (AVal.list (3 : Nat) (nowX x).l2) ∧ EqA (AVal.list (3 : Nat) (nowX x).hold) (AVal.list
  (3 : Nat) (nowX x).hold) ∧ EqA (AVal.int IntKind.i64 (nowX x).b) (AVal.int IntKind.i64 (nowX x).b) ∧ EqA (AVal.int IntKind.i64 (nowX x).k) (AVal.int IntKind.i64 (nowX
  x).k) ∧ EqA (AVal.int IntKind.i64 (nowX x).i) (AVal.int IntKind.i64 (nowX x).i) ∧ EqA (AVal.int IntKind.i64 (nowX x).c) (AVal.int IntKind.i64 (nowX x).c) ∧ EqA (AVal.int
  IntKind.i64 (nowX x).bor) (AVal.int IntKind.i64 (nowX x).bor) ∧ EqA (AVal.int IntKind.u64 (nowX x).h) (AVal.int IntKind.u64 (nowX x).h) ∧ EqA (AVal.int IntKind.u64 (nowX
  x).n) (AVal.int IntKind.u64 (nowX x).n) ∧ EqA (AVal.int IntKind.u64 (nowX x).v) (AVal.int IntKind.u64 (nowX x).v) ∧ EqA (AVal.int IntKind.u64 (nowX x).u) (AVal.int
  IntKind.u64 (nowX x).u) ∧ EqA (AVal.int IntKind.u64 (nowX x).g) (AVal.int IntKind.u64 (nowX x).g) ∧ EqA (AVal.int IntKind.i64 (nowX x).j) (AVal.int IntKind.i64 (nowX
  x).j) ∧ EqA (AVal.list (22 : Nat) (nowX x).read) (AVal.list (22 : Nat) (nowX x).read) ∧ EqA (AVal.int IntKind.u64 (nowX x).t) (AVal.int IntKind.u64 (nowX x).t) ∧ EqA
  (AVal.int IntKind.i64 (nowX x).ret) (AVal.int IntKind.i64 (nowX x).ret) ∧ EqA (AVal.bool (nowX x).give) (AVal.bool (nowX x).give) ∧ True) ∧ (True ∧ EqA (AVal.int
  IntKind.i64 (nowX x).line) (AVal.int IntKind.i64 (nowX x).line) ∧ EqA (AVal.int IntKind.i64 (nowX x).op.k) (AVal.int IntKind.i64 (nowX x).op.k) ∧ EqA (AVal.int
  IntKind.u64 (nowX x).op.t) (AVal.int IntKind.u64 (nowX x).op.t) ∧ EqA (AVal.int IntKind.u64 (nowX x).op.x) (AVal.int IntKind.u64 (nowX x).op.x) ∧ EqA (AVal.int
  IntKind.i64 (nowX x).op.s) (AVal.int IntKind.i64 (nowX x).op.s) ∧ EqA (AVal.bool (nowX x).op.u) (AVal.bool (nowX x).op.u) ∧ EqA (AVal.int IntKind.i64 (nowX x).op.b)
  (AVal.int IntKind.i64 (nowX x).op.b) ∧ EqA (AVal.int IntKind.i64 (nowX x).op.n) (AVal.int IntKind.i64 (nowX x).op.n) ∧ EqA (AVal.bool (nowX x).pin) (AVal.bool (nowX
  x).pin) ∧ EqA (AVal.int IntKind.u64 (nowX x).e) (AVal.int IntKind.u64 (nowX x).e) ∧ EqA (AVal.list (3 : Nat) (nowX x).rack) (AVal.list (3 : Nat) (nowX x).rack) ∧ EqA
  (AVal.int IntKind.u64 (nowX x).t0) (AVal.int IntKind.u64 (nowX x).t0) ∧ EqA (AVal.list (3 : Nat) (nowX x).l0) (AVal.list (3 : Nat) (nowX x).l0) ∧ EqA (AVal.int
  IntKind.u64 (nowX x).t1) (AVal.int IntKind.u64 (nowX x).t1) ∧ EqA (AVal.list (3 : Nat) (nowX x).l1) (AVal.list (3 : Nat) (nowX x).l1) ∧ EqA (AVal.int IntKind.u64 (nowX
  x).t2) (AVal.int IntKind.u64 (nowX x).t2) ∧ EqA (AVal.list (3 : Nat) (nowX x).l2) (AVal.list (3 : Nat) (nowX x).l2) ∧ EqA (AVal.list (3 : Nat) (nowX x).hold) (AVal.list
  (3 : Nat) (nowX x).hold) ∧ EqA (AVal.int IntKind.i64 (nowX x).b) (AVal.int IntKind.i64 (nowX x).b) ∧ EqA (AVal.int IntKind.i64 (nowX x).k) (AVal.int IntKind.i64 (nowX
  x).k) ∧ EqA (AVal.int IntKind.i64 (nowX x).i) (AVal.int IntKind.i64 (nowX x).i) ∧ EqA (AVal.int IntKind.i64 (nowX x).c) (AVal.int IntKind.i64 (nowX x).c) ∧ EqA (AVal.int
  IntKind.i64 (nowX x).bor) (AVal.int IntKind.i64 (nowX x).bor) ∧ EqA (AVal.int IntKind.u64 (nowX x).h) (AVal.int IntKind.u64 (nowX x).h) ∧ EqA (AVal.int IntKind.u64 (nowX
  x).n) (AVal.int IntKind.u64 (nowX x).n) ∧ EqA (AVal.int IntKind.u64 (nowX x).v) (AVal.int IntKind.u64 (nowX x).v) ∧ EqA (AVal.int IntKind.u64 (nowX x).u) (AVal.int
  IntKind.u64 (nowX x).u) ∧ EqA (AVal.int IntKind.u64 (nowX x).g) (AVal.int IntKind.u64 (nowX x).g) ∧ EqA (AVal.int IntKind.i64 (nowX x).j) (AVal.int IntKind.i64 (nowX
  x).j) ∧ EqA (AVal.list (22 : Nat) (nowX x).read) (AVal.list (22 : Nat) (nowX x).read) ∧ EqA (AVal.int IntKind.u64 (nowX x).t) (AVal.int IntKind.u64 (nowX x).t) ∧ EqA
  (AVal.int IntKind.i64 (nowX x).ret) (AVal.int IntKind.i64 (nowX x).ret) ∧ EqA (AVal.bool (nowX x).give) (AVal.bool (nowX x).give) ∧ True) ∧ True) ∧ True)) ((∃ (s0 : Nat),
  s0 ≤ List.length x.l2 ∧ (EqA (AVal.bool (hasS x.l0 b || hasS (List.take s x.l1) b)) (AVal.bool (hasS x.l0 b || hasS x.l1 b || hasS (List.take s0 x.l2) b)) ∧ EqA (AVal.int
  IntKind.i64 (0 : Int)) (AVal.int IntKind.i64 (↑s0 : Int)) ∧ True) ∧ ((True ∧ EqA (AVal.int IntKind.i64 x.line) (AVal.int IntKind.i64 x.line) ∧ EqA (AVal.int IntKind.i64
  x.op.k) (AVal.int IntKind.i64 x.op.k) ∧ EqA (AVal.int IntKind.u64 x.op.t) (AVal.int IntKind.u64 x.op.t) ∧ EqA (AVal.int IntKind.u64 x.op.x) (AVal.int IntKind.u64 x.op.x)
  ∧ EqA (AVal.int IntKind.i64 x.op.s) (AVal.int IntKind.i64 x.op.s) ∧ EqA (AVal.bool x.op.u) (AVal.bool x.op.u) ∧ EqA (AVal.int IntKind.i64 x.op.b) (AVal.int IntKind.i64
  x.op.b) ∧ EqA (AVal.int IntKind.i64 x.op.n) (AVal.int IntKind.i64 x.op.n) ∧ EqA (AVal.bool x.pin) (AVal.bool x.pin) ∧ EqA (AVal.int IntKind.u64 x.e) (AVal.int IntKind.u64
  x.e) ∧ EqA (AVal.list (3 : Nat) x.rack) (AVal.list (3 : Nat) x.rack) ∧ EqA (AVal.int IntKind.u64 x.t0) (AVal.int IntKind.u64 x.t0) ∧ EqA (AVal.list (3 : Nat) x.l0)
  (AVal.list (3 : Nat) x.l0) ∧ EqA (AVal.int IntKind.u64 x.t1) (AVal.int IntKind.u64 x.t1) ∧ EqA (AVal.list (3 : Nat) x.l1) (AVal.list (3 : Nat) x.l1) ∧ EqA (AVal.int
  IntKind.u64 x.t2) (AVal.int IntKind.u64 x.t2) ∧ EqA (AVal.list (3 : Nat) x.l2) (AVal.list (3 : Nat) x.l2) ∧ EqA (AVal.list (3 : Nat) x.hold) (AVal.list (3 : Nat) x.hold)
  ∧ EqA (AVal.int IntKind.i64 x.b) (AVal.int IntKind.i64 x.b) ∧ EqA (AVal.int IntKind.i64 x.k) (AVal.int IntKind.i64 x.k) ∧ EqA (AVal.int IntKind.i64 x.i) (AVal.int
  IntKind.i64 x.i) ∧ EqA (AVal.int IntKind.i64 x.c) (AVal.int IntKind.i64 x.c) ∧ EqA (AVal.int IntKind.i64 x.bor) (AVal.int IntKind.i64 x.bor) ∧ EqA (AVal.int IntKind.u64
  x.h) (AVal.int IntKind.u64 x.h) ∧ EqA (AVal.int IntKind.u64 x.n) (AVal.int IntKind.u64 x.n) ∧ EqA (AVal.int IntKind.u64 x.v) (AVal.int IntKind.u64 x.v) ∧ EqA (AVal.int
  IntKind.u64 x.u) (AVal.int IntKind.u64 x.u) ∧ EqA (AVal.int IntKind.u64 x.g) (AVal.int IntKind.u64 x.g) ∧ EqA (AVal.int IntKind.i64 x.j) (AVal.int IntKind.i64 x.j) ∧ EqA
  (AVal.list (22 : Nat) x.read) (AVal.list (22 : Nat) x.read) ∧ EqA (AVal.int IntKind.u64 x.t) (AVal.int IntKind.u64 x.t) ∧ EqA (AVal.int IntKind.i64 x.ret) (AVal.int
  IntKind.i64 x.ret) ∧ EqA (AVal.bool x.give) (AVal.bool x.give) ∧ True) ∧ (True ∧ EqA (AVal.int IntKind.i64 x.line) (AVal.int IntKind.i64 x.line) ∧ EqA (AVal.int
  IntKind.i64 x.op.k) (AVal.int IntKind.i64 x.op.k) ∧ EqA (AVal.int IntKind.u64 x.op.t) (AVal.int IntKind.u64 x.op.t) ∧ EqA (AVal.int IntKind.u64 x.op.x) (AVal.int
  IntKind.u64 x.op.x) ∧ EqA (AVal.int IntKind.i64 x.op.s) (AVal.int IntKind.i64 x.op.s) ∧ EqA (AVal.bool x.op.u) (AVal.bool x.op.u) ∧ EqA (AVal.int IntKind.i64 x.op.b)
  (AVal.int IntKind.i64 x.op.b) ∧ EqA (AVal.int IntKind.i64 x.op.n) (AVal.int IntKind.i64 x.op.n) ∧ EqA (AVal.bool x.pin) (AVal.bool x.pin) ∧ EqA (AVal.int IntKind.u64 x.e)
  (AVal.int IntKind.u64 x.e) ∧ EqA (AVal.list (3 : Nat) x.rack) (AVal.list (3 : Nat) x.rack) ∧ EqA (AVal.int IntKind.u64 x.t0) (AVal.int IntKind.u64 x.t0) ∧ EqA (AVal.list
  (3 : Nat) x.l0) (AVal.list (3 : Nat) x.l0) ∧ EqA (AVal.int IntKind.u64 x.t1) (AVal.int IntKind.u64 x.t1) ∧ EqA (AVal.list (3 : Nat) x.l1) (AVal.list (3 : Nat) x.l1) ∧ EqA
  (AVal.int IntKind.u64 x.t2) (AVal.int IntKind.u64 x.t2) ∧ EqA (AVal.list (3 : Nat) x.l2) (AVal.list (3 : Nat) x.l2) ∧ EqA (AVal.list (3 : Nat) x.hold) (AVal.list (3 :
  Nat) x.hold) ∧ EqA (AVal.int IntKind.i64 x.b) (AVal.int IntKind.i64 x.b) ∧ EqA (AVal.int IntKind.i64 x.k) (AVal.int IntKind.i64 x.k) ∧ EqA (AVal.int IntKind.i64 x.i)
  (AVal.int IntKind.i64 x.i) ∧ EqA (AVal.int IntKind.i64 x.c) (AVal.int IntKind.i64 x.c) ∧ EqA (AVal.int IntKind.i64 x.bor) (AVal.int IntKind.i64 x.bor) ∧ EqA (AVal.int
  IntKind.u64 x.h) (AVal.int IntKind.u64 x.h) ∧ EqA (AVal.int IntKind.u64 x.n) (AVal.int IntKind.u64 x.n) ∧ EqA (AVal.int IntKind.u64 x.v) (AVal.int IntKind.u64 x.v) ∧ EqA
  (AVal.int IntKind.u64 x.u) (AVal.int IntKind.u64 x.u) ∧ EqA (AVal.int IntKind.u64 x.g) (AVal.int IntKind.u64 x.g) ∧ EqA (AVal.int IntKind.i64 x.j) (AVal.int IntKind.i64
  x.j) ∧ EqA (AVal.list (22 : Nat) x.read) (AVal.list (22 : Nat) x.read) ∧ EqA (AVal.int IntKind.u64 x.t) (AVal.int IntKind.u64 x.t) ∧ EqA (AVal.int IntKind.i64 x.ret)
  (AVal.int IntKind.i64 x.ret) ∧ EqA (AVal.bool x.give) (AVal.bool x.give) ∧ True) ∧ (True ∧ EqA (AVal.int IntKind.i64 (nowX x).line) (AVal.int IntKind.i64 (nowX x).line) ∧
  EqA (AVal.int IntKind.i64 (nowX x).op.k) (AVal.int IntKind.i64 (nowX x).op.k) ∧ EqA (AVal.int IntKind.u64 (nowX x).op.t) (AVal.int IntKind.u64 (nowX x).op.t) ∧ EqA
  (AVal.int IntKind.u64 (nowX x).op.x) (AVal.int IntKind.u64 (nowX x).op.x) ∧ EqA (AVal.int IntKind.i64 (nowX x).op.s) (AVal.int IntKind.i64 (nowX x).op.s) ∧ EqA (AVal.bool
  (nowX x).op.u) (AVal.bool (nowX x).op.u) ∧ EqA (AVal.int IntKind.i64 (nowX x).op.b) (AVal.int IntKind.i64 (nowX x).op.b) ∧ EqA (AVal.int IntKind.i64 (nowX x).op.n)
  (AVal.int IntKind.i64 (nowX x).op.n) ∧ EqA (AVal.bool (nowX x).pin) (AVal.bool (nowX x).pin) ∧ EqA (AVal.int IntKind.u64 (nowX x).e) (AVal.int IntKind.u64 (nowX x).e) ∧
  EqA (AVal.list (3 : Nat) (nowX x).rack) (AVal.list (3 : Nat) (nowX x).rack) ∧ EqA (AVal.int IntKind.u64 (nowX x).t0) (AVal.int IntKind.u64 (nowX x).t0) ∧ EqA (AVal.list
  (3 : Nat) (nowX x).l0) (AVal.list (3 : Nat) (nowX x).l0) ∧ EqA (AVal.int IntKind.u64 (nowX x).t1) (AVal.int IntKind.u64 (nowX x).t1) ∧ EqA (AVal.list (3 : Nat) (nowX
  x).l1) (AVal.list (3 : Nat) (nowX x).l1) ∧ EqA (AVal.int IntKind.u64 (nowX x).t2) (AVal.int IntKind.u64 (nowX x).t2) ∧ EqA (AVal.list (3 : Nat) (nowX x).l2) (AVal.list (3
  : Nat) (nowX x).l2) ∧ EqA (AVal.list (3 : Nat) (nowX x).hold) (AVal.list (3 : Nat) (nowX x).hold) ∧ EqA (AVal.int IntKind.i64 (nowX x).b) (AVal.int IntKind.i64 (nowX
  x).b) ∧ EqA (AVal.int IntKind.i64 (nowX x).k) (AVal.int IntKind.i64 (nowX x).k) ∧ EqA (AVal.int IntKind.i64 (nowX x).i) (AVal.int IntKind.i64 (nowX x).i) ∧ EqA (AVal.int
  IntKind.i64 (nowX x).c) (AVal.int IntKind.i64 (nowX x).c) ∧ EqA (AVal.int IntKind.i64 (nowX x).bor) (AVal.int IntKind.i64 (nowX x).bor) ∧ EqA (AVal.int IntKind.u64 (nowX
  x).h) (AVal.int IntKind.u64 (nowX x).h) ∧ EqA (AVal.int IntKind.u64 (nowX x).n) (AVal.int IntKind.u64 (nowX x).n) ∧ EqA (AVal.int IntKind.u64 (nowX x).v) (AVal.int
  IntKind.u64 (nowX x).v) ∧ EqA (AVal.int IntKind.u64 (nowX x).u) (AVal.int IntKind.u64 (nowX x).u) ∧ EqA (AVal.int IntKind.u64 (nowX x).g) (AVal.int IntKind.u64 (nowX
  x).g) ∧ EqA (AVal.int IntKind.i64 (nowX x).j) (AVal.int IntKind.i64 (nowX x).j) ∧ EqA (AVal.list (22 : Nat) (nowX x).read) (AVal.list (22 : Nat) (nowX x).read) ∧ EqA
  (AVal.int IntKind.u64 (nowX x).t) (AVal.int IntKind.u64 (nowX x).t) ∧ EqA (AVal.int IntKind.i64 (nowX x).ret) (AVal.int IntKind.i64 (nowX x).ret) ∧ EqA (AVal.bool (nowX
  x).give) (AVal.bool (nowX x).give) ∧ True) ∧ (True ∧ EqA (AVal.int IntKind.i64 (nowX x).line) (AVal.int IntKind.i64 (nowX x).line) ∧ EqA (AVal.int IntKind.i64 (nowX
  x).op.k) (AVal.int IntKind.i64 (nowX x).op.k) ∧ EqA (AVal.int IntKind.u64 (nowX x).op.t) (AVal.int IntKind.u64 (nowX x).op.t) ∧ EqA (AVal.int IntKind.u64 (nowX x).op.x)
  (AVal.int IntKind.u64 (nowX x).op.x) ∧ EqA (AVal.int IntKind.i64 (nowX x).op.s) (AVal.int IntKind.i64 (nowX x).op.s) ∧ EqA (AVal.bool (nowX x).op.u) (AVal.bool (nowX
  x).op.u) ∧ EqA (AVal.int IntKind.i64 (nowX x).op.b) (AVal.int IntKind.i64 (nowX x).op.b) ∧ EqA (AVal.int IntKind.i64 (nowX x).op.n) (AVal.int IntKind.i64 (nowX x).op.n) ∧
  EqA (AVal.bool (nowX x).pin) (AVal.bool (nowX x).pin) ∧ EqA (AVal.int IntKind.u64 (nowX x).e) (AVal.int IntKind.u64 (nowX x).e) ∧ EqA (AVal.list (3 : Nat) (nowX x).rack)
  (AVal.list (3 : Nat) (nowX x).rack) ∧ EqA (AVal.int IntKind.u64 (nowX x).t0) (AVal.int IntKind.u64 (nowX x).t0) ∧ EqA (AVal.list (3 : Nat) (nowX x).l0) (AVal.list (3 :
  Nat) (nowX x).l0) ∧ EqA (AVal.int IntKind.u64 (nowX x).t1) (AVal.int IntKind.u64 (nowX x).t1) ∧ EqA (AVal.list (3 : Nat) (nowX x).l1) (AVal.list (3 : Nat) (nowX x).l1) ∧
  EqA (AVal.int IntKind.u64 (nowX x).t2) (AVal.int IntKind.u64 (nowX x).t2) ∧ EqA (AVal.list (3 : Nat) (nowX x).l2) (AVal.list (3 : Nat) (nowX x).l2) ∧ EqA (AVal.list (3 :
  Nat) (nowX x).hold) (AVal.list (3 : Nat) (nowX x).hold) ∧ EqA (AVal.int IntKind.i64 (nowX x).b) (AVal.int IntKind.i64 (nowX x).b) ∧ EqA (AVal.int IntKind.i64 (nowX x).k)
  (AVal.int IntKind.i64 (nowX x).k) ∧ EqA (AVal.int IntKind.i64 (nowX x).i) (AVal.int IntKind.i64 (nowX x).i) ∧ EqA (AVal.int IntKind.i64 (nowX x).c) (AVal.int IntKind.i64
  (nowX x).c) ∧ EqA (AVal.int IntKind.i64 (nowX x).bor) (AVal.int IntKind.i64 (nowX x).bor) ∧ EqA (AVal.int IntKind.u64 (nowX x).h) (AVal.int IntKind.u64 (nowX x).h) ∧ EqA
  (AVal.int IntKind.u64 (nowX x).n) (AVal.int IntKind.u64 (nowX x).n) ∧ EqA (AVal.int IntKind.u64 (nowX x).v) (AVal.int IntKind.u64 (nowX x).v) ∧ EqA (AVal.int IntKind.u64
  (nowX x).u) (AVal.int IntKind.u64 (nowX x).u) ∧ EqA (AVal.int IntKind.u64 (nowX x).g) (AVal.int IntKind.u64 (nowX x).g) ∧ EqA (AVal.int IntKind.i64 (nowX x).j) (AVal.int
  IntKind.i64 (nowX x).j) ∧ EqA (AVal.list (22 : Nat) (nowX x).read) (AVal.list (22 : Nat) (nowX x).read) ∧ EqA (AVal.int IntKind.u64 (nowX x).t) (AVal.int IntKind.u64
  (nowX x).t) ∧ EqA (AVal.int IntKind.i64 (nowX x).ret) (AVal.int IntKind.i64 (nowX x).ret) ∧ EqA (AVal.bool (nowX x).give) (AVal.bool (nowX x).give) ∧ True) ∧ True) ∧
  True) ∧ ∀ (s : Nat), s ≤ List.length x.l2 → cnd (decide ((↑s : Int) < (↑(List.length x.l2) : Int))) (cnd ((hasS x.l0 b || hasS x.l1 b || hasS (List.take s x.l2) b) ==
  false) (((0 : Int) ≤ (↑s : Int) ∧ (↑s : Int) < (↑(List.length x.l2) : Int)) ∧ ∃ (s' : Nat), s' ≤ List.length x.l2 ∧ List.length x.l2 - s' < List.length x.l2 - s ∧ (EqA
  (AVal.bool (List.getD x.l2 (Int.toNat (↑s : Int)) (0 : Int) == b)) (AVal.bool (hasS x.l0 b || hasS x.l1 b || hasS (List.take s' x.l2) b)) ∧ EqA (AVal.int IntKind.i64
  (IntKind.wrap IntKind.i64 ((↑s : Int) + (1 : Int)))) (AVal.int IntKind.i64 (↑s' : Int)) ∧ True) ∧ ((True ∧ EqA (AVal.int IntKind.i64 x.line) (AVal.int IntKind.i64 x.line)
  ∧ EqA (AVal.int IntKind.i64 x.op.k) (AVal.int IntKind.i64 x.op.k) ∧ EqA (AVal.int IntKind.u64 x.op.t) (AVal.int IntKind.u64 x.op.t) ∧ EqA (AVal.int IntKind.u64 x.op.x)
  (AVal.int IntKind.u64 x.op.x) ∧ EqA (AVal.int IntKind.i64 x.op.s) (AVal.int IntKind.i64 x.op.s) ∧ EqA (AVal.bool x.op.u) (AVal.bool x.op.u) ∧ EqA (AVal.int IntKind.i64
  x.op.b) (AVal.int IntKind.i64 x.op.b) ∧ EqA (AVal.int IntKind.i64 x.op.n) (AVal.int IntKind.i64 x.op.n) ∧ EqA (AVal.bool x.pin) (AVal.bool x.pin) ∧ EqA (AVal.int
  IntKind.u64 x.e) (AVal.int IntKind.u64 x.e) ∧ EqA (AVal.list (3 : Nat) x.rack) (AVal.list (3 : Nat) x.rack) ∧ EqA (AVal.int IntKind.u64 x.t0) (AVal.int IntKind.u64 x.t0)
  ∧ EqA (AVal.list (3 : Nat) x.l0) (AVal.list (3 : Nat) x.l0) ∧ EqA (AVal.int IntKind.u64 x.t1) (AVal.int IntKind.u64 x.t1) ∧ EqA (AVal.list (3 : Nat) x.l1) (AVal.list (3 :
  Nat) x.l1) ∧ EqA (AVal.int IntKind.u64 x.t2) (AVal.int IntKind.u64 x.t2) ∧ EqA (AVal.list (3 : Nat) x.l2) (AVal.list (3 : Nat) x.l2) ∧ EqA (AVal.list (3 : Nat) x.hold)
  (AVal.list (3 : Nat) x.hold) ∧ EqA (AVal.int IntKind.i64 x.b) (AVal.int IntKind.i64 x.b) ∧ EqA (AVal.int IntKind.i64 x.k) (AVal.int IntKind.i64 x.k) ∧ EqA (AVal.int
  IntKind.i64 x.i) (AVal.int IntKind.i64 x.i) ∧ EqA (AVal.int IntKind.i64 x.c) (AVal.int IntKind.i64 x.c) ∧ EqA (AVal.int IntKind.i64 x.bor) (AVal.int IntKind.i64 x.bor) ∧
  EqA (AVal.int IntKind.u64 x.h) (AVal.int IntKind.u64 x.h) ∧ EqA (AVal.int IntKind.u64 x.n) (AVal.int IntKind.u64 x.n) ∧ EqA (AVal.int IntKind.u64 x.v) (AVal.int
  IntKind.u64 x.v) ∧ EqA (AVal.int IntKind.u64 x.u) (AVal.int IntKind.u64 x.u) ∧ EqA (AVal.int IntKind.u64 x.g) (AVal.int IntKind.u64 x.g) ∧ EqA (AVal.int IntKind.i64 x.j)
  (AVal.int IntKind.i64 x.j) ∧ EqA (AVal.list (22 : Nat) x.read) (AVal.list (22 : Nat) x.read) ∧ EqA (AVal.int IntKind.u64 x.t) (AVal.int IntKind.u64 x.t) ∧ EqA (AVal.int
  IntKind.i64 x.ret) (AVal.int IntKind.i64 x.ret) ∧ EqA (AVal.bool x.give) (AVal.bool x.give) ∧ True) ∧ (True ∧ EqA (AVal.int IntKind.i64 x.line) (AVal.int IntKind.i64
  x.line) ∧ EqA (AVal.int IntKind.i64 x.op.k) (AVal.int IntKind.i64 x.op.k) ∧ EqA (AVal.int IntKind.u64 x.op.t) (AVal.int IntKind.u64 x.op.t) ∧ EqA (AVal.int IntKind.u64
  x.op.x) (AVal.int IntKind.u64 x.op.x) ∧ EqA (AVal.int IntKind.i64 x.op.s) (AVal.int IntKind.i64 x.op.s) ∧ EqA (AVal.bool x.op.u) (AVal.bool x.op.u) ∧ EqA (AVal.int
  IntKind.i64 x.op.b) (AVal.int IntKind.i64 x.op.b) ∧ EqA (AVal.int IntKind.i64 x.op.n) (AVal.int IntKind.i64 x.op.n) ∧ EqA (AVal.bool x.pin) (AVal.bool x.pin) ∧ EqA
  (AVal.int IntKind.u64 x.e) (AVal.int IntKind.u64 x.e) ∧ EqA (AVal.list (3 : Nat) x.rack) (AVal.list (3 : Nat) x.rack) ∧ EqA (AVal.int IntKind.u64 x.t0) (AVal.int
  IntKind.u64 x.t0) ∧ EqA (AVal.list (3 : Nat) x.l0) (AVal.list (3 : Nat) x.l0) ∧ EqA (AVal.int IntKind.u64 x.t1) (AVal.int IntKind.u64 x.t1) ∧ EqA (AVal.list (3 : Nat)
  x.l1) (AVal.list (3 : Nat) x.l1) ∧ EqA (AVal.int IntKind.u64 x.t2) (AVal.int IntKind.u64 x.t2) ∧ EqA (AVal.list (3 : Nat) x.l2) (AVal.list (3 : Nat) x.l2) ∧ EqA
  (AVal.list (3 : Nat) x.hold) (AVal.list (3 : Nat) x.hold) ∧ EqA (AVal.int IntKind.i64 x.b) (AVal.int IntKind.i64 x.b) ∧ EqA (AVal.int IntKind.i64 x.k) (AVal.int
  IntKind.i64 x.k) ∧ EqA (AVal.int IntKind.i64 x.i) (AVal.int IntKind.i64 x.i) ∧ EqA (AVal.int IntKind.i64 x.c) (AVal.int IntKind.i64 x.c) ∧ EqA (AVal.int IntKind.i64
  x.bor) (AVal.int IntKind.i64 x.bor) ∧ EqA (AVal.int IntKind.u64 x.h) (AVal.int IntKind.u64 x.h) ∧ EqA (AVal.int IntKind.u64 x.n) (AVal.int IntKind.u64 x.n) ∧ EqA
  (AVal.int IntKind.u64 x.v) (AVal.int IntKind.u64 x.v) ∧ EqA (AVal.int IntKind.u64 x.u) (AVal.int IntKind.u64 x.u) ∧ EqA (AVal.int IntKind.u64 x.g) (AVal.int IntKind.u64
  x.g) ∧ EqA (AVal.int IntKind.i64 x.j) (AVal.int IntKind.i64 x.j) ∧ EqA (AVal.list (22 : Nat) x.read) (AVal.list (22 : Nat) x.read) ∧ EqA (AVal.int IntKind.u64 x.t)
  (AVal.int IntKind.u64 x.t) ∧ EqA (AVal.int IntKind.i64 x.ret) (AVal.int IntKind.i64 x.ret) ∧ EqA (AVal.bool x.give) (AVal.bool x.give) ∧ True) ∧ (True ∧ EqA (AVal.int
  IntKind.i64 (nowX x).line) (AVal.int IntKind.i64 (nowX x).line) ∧ EqA (AVal.int IntKind.i64 (nowX x).op.k) (AVal.int IntKind.i64 (nowX x).op.k) ∧ EqA (AVal.int
  IntKind.u64 (nowX x).op.t) (AVal.int IntKind.u64 (nowX x).op.t) ∧ EqA (AVal.int IntKind.u64 (nowX x).op.x) (AVal.int IntKind.u64 (nowX x).op.x) ∧ EqA (AVal.int
  IntKind.i64 (nowX x).op.s) (AVal.int IntKind.i64 (nowX x).op.s) ∧ EqA (AVal.bool (nowX x).op.u) (AVal.bool (nowX x).op.u) ∧ EqA (AVal.int IntKind.i64 (nowX x).op.b)
  (AVal.int IntKind.i64 (nowX x).op.b) ∧ EqA (AVal.int IntKind.i64 (nowX x).op.n) (AVal.int IntKind.i64 (nowX x).op.n) ∧ EqA (AVal.bool (nowX x).pin) (AVal.bool (nowX
  x).pin) ∧ EqA (AVal.int IntKind.u64 (nowX x).e) (AVal.int IntKind.u64 (nowX x).e) ∧ EqA (AVal.list (3 : Nat) (nowX x).rack) (AVal.list (3 : Nat) (nowX x).rack) ∧ EqA
  (AVal.int IntKind.u64 (nowX x).t0) (AVal.int IntKind.u64 (nowX x).t0) ∧ EqA (AVal.list (3 : Nat) (nowX x).l0) (AVal.list (3 : Nat) (nowX x).l0) ∧ EqA (AVal.int
  IntKind.u64 (nowX x).t1) (AVal.int IntKind.u64 (nowX x).t1) ∧ EqA (AVal.list (3 : Nat) (nowX x).l1) (AVal.list (3 : Nat) (nowX x).l1) ∧ EqA (AVal.int IntKind.u64 (nowX
  x).t2) (AVal.int IntKind.u64 (nowX x).t2) ∧ EqA (AVal.list (3 : Nat) (nowX x).l2) (AVal.list (3 : Nat) (nowX x).l2) ∧ EqA (AVal.list (3 : Nat) (nowX x).hold) (AVal.list
  (3 : Nat) (nowX x).hold) ∧ EqA (AVal.int IntKind.i64 (nowX x).b) (AVal.int IntKind.i64 (nowX x).b) ∧ EqA (AVal.int IntKind.i64 (nowX x).k) (AVal.int IntKind.i64 (nowX
  x).k) ∧ EqA (AVal.int IntKind.i64 (nowX x).i) (AVal.int IntKind.i64 (nowX x).i) ∧ EqA (AVal.int IntKind.i64 (nowX x).c) (AVal.int IntKind.i64 (nowX x).c) ∧ EqA (AVal.int
  IntKind.i64 (nowX x).bor) (AVal.int IntKind.i64 (nowX x).bor) ∧ EqA (AVal.int IntKind.u64 (nowX x).h) (AVal.int IntKind.u64 (nowX x).h) ∧ EqA (AVal.int IntKind.u64 (nowX
  x).n) (AVal.int IntKind.u64 (nowX x).n) ∧ EqA (AVal.int IntKind.u64 (nowX x).v) (AVal.int IntKind.u64 (nowX x).v) ∧ EqA (AVal.int IntKind.u64 (nowX x).u) (AVal.int
  IntKind.u64 (nowX x).u) ∧ EqA (AVal.int IntKind.u64 (nowX x).g) (AVal.int IntKind.u64 (nowX x).g) ∧ EqA (AVal.int IntKind.i64 (nowX x).j) (AVal.int IntKind.i64 (nowX
  x).j) ∧ EqA (AVal.list (22 : Nat) (nowX x).read) (AVal.list (22 : Nat) (nowX x).read) ∧ EqA (AVal.int IntKind.u64 (nowX x).t) (AVal.int IntKind.u64 (nowX x).t) ∧ EqA
  (AVal.int IntKind.i64 (nowX x).ret) (AVal.int IntKind.i64 (nowX x).ret) ∧ EqA (AVal.bool (nowX x).give) (AVal.bool (nowX x).give) ∧ True) ∧ (True ∧ EqA (AVal.int
  IntKind.i64 (nowX x).line) (AVal.int IntKind.i64 (nowX x).line) ∧ EqA (AVal.int IntKind.i64 (nowX x).op.k) (AVal.int IntKind.i64 (nowX x).op.k) ∧ EqA (AVal.int
  IntKind.u64 (nowX x).op.t) (AVal.int IntKind.u64 (nowX x).op.t) ∧ EqA (AVal.int IntKind.u64 (nowX x).op.x) (AVal.int IntKind.u64 (nowX x).op.x) ∧ EqA (AVal.int
  IntKind.i64 (nowX x).op.s) (AVal.int IntKind.i64 (nowX x).op.s) ∧ EqA (AVal.bool (nowX x).op.u) (AVal.bool (nowX x).op.u) ∧ EqA (AVal.int IntKind.i64 (nowX x).op.b)
  (AVal.int IntKind.i64 (nowX x).op.b) ∧ EqA (AVal.int IntKind.i64 (nowX x).op.n) (AVal.int IntKind.i64 (nowX x).op.n) ∧ EqA (AVal.bool (nowX x).pin) (AVal.bool (nowX
  x).pin) ∧ EqA (AVal.int IntKind.u64 (nowX x).e) (AVal.int IntKind.u64 (nowX x).e) ∧ EqA (AVal.list (3 : Nat) (nowX x).rack) (AVal.list (3 : Nat) (nowX x).rack) ∧ EqA
  (AVal.int IntKind.u64 (nowX x).t0) (AVal.int IntKind.u64 (nowX x).t0) ∧ EqA (AVal.list (3 : Nat) (nowX x).l0) (AVal.list (3 : Nat) (nowX x).l0) ∧ EqA (AVal.int
  IntKind.u64 (nowX x).t1) (AVal.int IntKind.u64 (nowX x).t1) ∧ EqA (AVal.list (3 : Nat) (nowX x).l1) (AVal.list (3 : Nat) (nowX x).l1) ∧ EqA (AVal.int IntKind.u64 (nowX
  x).t2) (AVal.int IntKind.u64 (nowX x).t2) ∧ EqA (AVal.list (3 : Nat) (nowX x).l2) (AVal.list (3 : Nat) (nowX x).l2) ∧ EqA (AVal.list (3 : Nat) (nowX x).hold) (AVal.list
  (3 : Nat) (nowX x).hold) ∧ EqA (AVal.int IntKind.i64 (nowX x).b) (AVal.int IntKind.i64 (nowX x).b) ∧ EqA (AVal.int IntKind.i64 (nowX x).k) (AVal.int IntKind.i64 (nowX
  x).k) ∧ EqA (AVal.int IntKind.i64 (nowX x).i) (AVal.int IntKind.i64 (nowX x).i) ∧ EqA (AVal.int IntKind.i64 (nowX x).c) (AVal.int IntKind.i64 (nowX x).c) ∧ EqA (AVal.int
  IntKind.i64 (nowX x).bor) (AVal.int IntKind.i64 (nowX x).bor) ∧ EqA (AVal.int IntKind.u64 (nowX x).h) (AVal.int IntKind.u64 (nowX x).h) ∧ EqA (AVal.int IntKind.u64 (nowX
  x).n) (AVal.int IntKind.u64 (nowX x).n) ∧ EqA (AVal.int IntKind.u64 (nowX x).v) (AVal.int IntKind.u64 (nowX x).v) ∧ EqA (AVal.int IntKind.u64 (nowX x).u) (AVal.int
  IntKind.u64 (nowX x).u) ∧ EqA (AVal.int IntKind.u64 (nowX x).g) (AVal.int IntKind.u64 (nowX x).g) ∧ EqA (AVal.int IntKind.i64 (nowX x).j) (AVal.int IntKind.i64 (nowX
  x).j) ∧ EqA (AVal.list (22 : Nat) (nowX x).read) (AVal.list (22 : Nat) (nowX x).read) ∧ EqA (AVal.int IntKind.u64 (nowX x).t) (AVal.int IntKind.u64 (nowX x).t) ∧ EqA
  (AVal.int IntKind.i64 (nowX x).ret) (AVal.int IntKind.i64 (nowX x).ret) ∧ EqA (AVal.bool (nowX x).give) (AVal.bool (nowX x).give) ∧ True) ∧ True) ∧ True) (∃ (s' : Nat),
  s' ≤ List.length x.l2 ∧ List.length x.l2 - s' < List.length x.l2 - s ∧ (EqA (AVal.bool true) (AVal.bool (hasS x.l0 b || hasS x.l1 b || hasS (List.take s' x.l2) b)) ∧ EqA
  (AVal.int IntKind.i64 (IntKind.wrap IntKind.i64 ((↑s : Int) + (1 : Int)))) (AVal.int IntKind.i64 (↑s' : Int)) ∧ True) ∧ ((True ∧ EqA (AVal.int IntKind.i64 x.line)
  (AVal.int IntKind.i64 x.line) ∧ EqA (AVal.int IntKind.i64 x.op.k) (AVal.int IntKind.i64 x.op.k) ∧ EqA (AVal.int IntKind.u64 x.op.t) (AVal.int IntKind.u64 x.op.t) ∧ EqA
  (AVal.int IntKind.u64 x.op.x) (AVal.int IntKind.u64 x.op.x) ∧ EqA (AVal.int IntKind.i64 x.op.s) (AVal.int IntKind.i64 x.op.s) ∧ EqA (AVal.bool x.op.u) (AVal.bool x.op.u)
  ∧ EqA (AVal.int IntKind.i64 x.op.b) (AVal.int IntKind.i64 x.op.b) ∧ EqA (AVal.int IntKind.i64 x.op.n) (AVal.int IntKind.i64 x.op.n) ∧ EqA (AVal.bool x.pin) (AVal.bool
  x.pin) ∧ EqA (AVal.int IntKind.u64 x.e) (AVal.int IntKind.u64 x.e) ∧ EqA (AVal.list (3 : Nat) x.rack) (AVal.list (3 : Nat) x.rack) ∧ EqA (AVal.int IntKind.u64 x.t0)
  (AVal.int IntKind.u64 x.t0) ∧ EqA (AVal.list (3 : Nat) x.l0) (AVal.list (3 : Nat) x.l0) ∧ EqA (AVal.int IntKind.u64 x.t1) (AVal.int IntKind.u64 x.t1) ∧ EqA (AVal.list (3
  : Nat) x.l1) (AVal.list (3 : Nat) x.l1) ∧ EqA (AVal.int IntKind.u64 x.t2) (AVal.int IntKind.u64 x.t2) ∧ EqA (AVal.list (3 : Nat) x.l2) (AVal.list (3 : Nat) x.l2) ∧ EqA
  (AVal.list (3 : Nat) x.hold) (AVal.list (3 : Nat) x.hold) ∧ EqA (AVal.int IntKind.i64 x.b) (AVal.int IntKind.i64 x.b) ∧ EqA (AVal.int IntKind.i64 x.k) (AVal.int
  IntKind.i64 x.k) ∧ EqA (AVal.int IntKind.i64 x.i) (AVal.int IntKind.i64 x.i) ∧ EqA (AVal.int IntKind.i64 x.c) (AVal.int IntKind.i64 x.c) ∧ EqA (AVal.int IntKind.i64
  x.bor) (AVal.int IntKind.i64 x.bor) ∧ EqA (AVal.int IntKind.u64 x.h) (AVal.int IntKind.u64 x.h) ∧ EqA (AVal.int IntKind.u64 x.n) (AVal.int IntKind.u64 x.n) ∧ EqA
  (AVal.int IntKind.u64 x.v) (AVal.int IntKind.u64 x.v) ∧ EqA (AVal.int IntKind.u64 x.u) (AVal.int IntKind.u64 x.u) ∧ EqA (AVal.int IntKind.u64 x.g) (AVal.int IntKind.u64
  x.g) ∧ EqA (AVal.int IntKind.i64 x.j) (AVal.int IntKind.i64 x.j) ∧ EqA (AVal.list (22 : Nat) x.read) (AVal.list (22 : Nat) x.read) ∧ EqA (AVal.int IntKind.u64 x.t)
  (AVal.int IntKind.u64 x.t) ∧ EqA (AVal.int IntKind.i64 x.ret) (AVal.int IntKind.i64 x.ret) ∧ EqA (AVal.bool x.give) (AVal.bool x.give) ∧ True) ∧ (True ∧ EqA (AVal.int
  IntKind.i64 x.line) (AVal.int IntKind.i64 x.line) ∧ EqA (AVal.int IntKind.i64 x.op.k) (AVal.int IntKind.i64 x.op.k) ∧ EqA (AVal.int IntKind.u64 x.op.t) (AVal.int
  IntKind.u64 x.op.t) ∧ EqA (AVal.int IntKind.u64 x.op.x) (AVal.int IntKind.u64 x.op.x) ∧ EqA (AVal.int IntKind.i64 x.op.s) (AVal.int IntKind.i64 x.op.s) ∧ EqA (AVal.bool
  x.op.u) (AVal.bool x.op.u) ∧ EqA (AVal.int IntKind.i64 x.op.b) (AVal.int IntKind.i64 x.op.b) ∧ EqA (AVal.int IntKind.i64 x.op.n) (AVal.int IntKind.i64 x.op.n) ∧ EqA
  (AVal.bool x.pin) (AVal.bool x.pin) ∧ EqA (AVal.int IntKind.u64 x.e) (AVal.int IntKind.u64 x.e) ∧ EqA (AVal.list (3 : Nat) x.rack) (AVal.list (3 : Nat) x.rack) ∧ EqA
  (AVal.int IntKind.u64 x.t0) (AVal.int IntKind.u64 x.t0) ∧ EqA (AVal.list (3 : Nat) x.l0) (AVal.list (3 : Nat) x.l0) ∧ EqA (AVal.int IntKind.u64 x.t1) (AVal.int
  IntKind.u64 x.t1) ∧ EqA (AVal.list (3 : Nat) x.l1) (AVal.list (3 : Nat) x.l1) ∧ EqA (AVal.int IntKind.u64 x.t2) (AVal.int IntKind.u64 x.t2) ∧ EqA (AVal.list (3 : Nat)
  x.l2) (AVal.list (3 : Nat) x.l2) ∧ EqA (AVal.list (3 : Nat) x.hold) (AVal.list (3 : Nat) x.hold) ∧ EqA (AVal.int IntKind.i64 x.b) (AVal.int IntKind.i64 x.b) ∧ EqA
  (AVal.int IntKind.i64 x.k) (AVal.int IntKind.i64 x.k) ∧ EqA (AVal.int IntKind.i64 x.i) (AVal.int IntKind.i64 x.i) ∧ EqA (AVal.int IntKind.i64 x.c) (AVal.int IntKind.i64
  x.c) ∧ EqA (AVal.int IntKind.i64 x.bor) (AVal.int IntKind.i64 x.bor) ∧ EqA (AVal.int IntKind.u64 x.h) (AVal.int IntKind.u64 x.h) ∧ EqA (AVal.int IntKind.u64 x.n)
  (AVal.int IntKind.u64 x.n) ∧ EqA (AVal.int IntKind.u64 x.v) (AVal.int IntKind.u64 x.v) ∧ EqA (AVal.int IntKind.u64 x.u) (AVal.int IntKind.u64 x.u) ∧ EqA (AVal.int
  IntKind.u64 x.g) (AVal.int IntKind.u64 x.g) ∧ EqA (AVal.int IntKind.i64 x.j) (AVal.int IntKind.i64 x.j) ∧ EqA (AVal.list (22 : Nat) x.read) (AVal.list (22 : Nat) x.read)
  ∧ EqA (AVal.int IntKind.u64 x.t) (AVal.int IntKind.u64 x.t) ∧ EqA (AVal.int IntKind.i64 x.ret) (AVal.int IntKind.i64 x.ret) ∧ EqA (AVal.bool x.give) (AVal.bool x.give) ∧
  True) ∧ (True ∧ EqA (AVal.int IntKind.i64 (nowX x).line) (AVal.int IntKind.i64 (nowX x).line) ∧ EqA (AVal.int IntKind.i64 (nowX x).op.k) (AVal.int IntKind.i64 (nowX
  x).op.k) ∧ EqA (AVal.int IntKind.u64 (nowX x).op.t) (AVal.int IntKind.u64 (nowX x).op.t) ∧ EqA (AVal.int IntKind.u64 (nowX x).op.x) (AVal.int IntKind.u64 (nowX x).op.x) ∧
  EqA (AVal.int IntKind.i64 (nowX x).op.s) (AVal.int IntKind.i64 (nowX x).op.s) ∧ EqA (AVal.bool (nowX x).op.u) (AVal.bool (nowX x).op.u) ∧ EqA (AVal.int IntKind.i64 (nowX
  x).op.b) (AVal.int IntKind.i64 (nowX x).op.b) ∧ EqA (AVal.int IntKind.i64 (nowX x).op.n) (AVal.int IntKind.i64 (nowX x).op.n) ∧ EqA (AVal.bool (nowX x).pin) (AVal.bool
  (nowX x).pin) ∧ EqA (AVal.int IntKind.u64 (nowX x).e) (AVal.int IntKind.u64 (nowX x).e) ∧ EqA (AVal.list (3 : Nat) (nowX x).rack) (AVal.list (3 : Nat) (nowX x).rack) ∧
  EqA (AVal.int IntKind.u64 (nowX x).t0) (AVal.int IntKind.u64 (nowX x).t0) ∧ EqA (AVal.list (3 : Nat) (nowX x).l0) (AVal.list (3 : Nat) (nowX x).l0) ∧ EqA (AVal.int
  IntKind.u64 (nowX x).t1) (AVal.int IntKind.u64 (nowX x).t1) ∧ EqA (AVal.list (3 : Nat) (nowX x).l1) (AVal.list (3 : Nat) (nowX x).l1) ∧ EqA (AVal.int IntKind.u64 (nowX
  x).t2) (AVal.int IntKind.u64 (nowX x).t2) ∧ EqA (AVal.list (3 : Nat) (nowX x).l2) (AVal.list (3 : Nat) (nowX x).l2) ∧ EqA (AVal.list (3 : Nat) (nowX x).hold) (AVal.list
  (3 : Nat) (nowX x).hold) ∧ EqA (AVal.int IntKind.i64 (nowX x).b) (AVal.int IntKind.i64 (nowX x).b) ∧ EqA (AVal.int IntKind.i64 (nowX x).k) (AVal.int IntKind.i64 (nowX
  x).k) ∧ EqA (AVal.int IntKind.i64 (nowX x).i) (AVal.int IntKind.i64 (nowX x).i) ∧ EqA (AVal.int IntKind.i64 (nowX x).c) (AVal.int IntKind.i64 (nowX x).c) ∧ EqA (AVal.int
  IntKind.i64 (nowX x).bor) (AVal.int IntKind.i64 (nowX x).bor) ∧ EqA (AVal.int IntKind.u64 (nowX x).h) (AVal.int IntKind.u64 (nowX x).h) ∧ EqA (AVal.int IntKind.u64 (nowX
  x).n) (AVal.int IntKind.u64 (nowX x).n) ∧ EqA (AVal.int IntKind.u64 (nowX x).v) (AVal.int IntKind.u64 (nowX x).v) ∧ EqA (AVal.int IntKind.u64 (nowX x).u) (AVal.int
  IntKind.u64 (nowX x).u) ∧ EqA (AVal.int IntKind.u64 (nowX x).g) (AVal.int IntKind.u64 (nowX x).g) ∧ EqA (AVal.int IntKind.i64 (nowX x).j) (AVal.int IntKind.i64 (nowX
  x).j) ∧ EqA (AVal.list (22 : Nat) (nowX x).read) (AVal.list (22 : Nat) (nowX x).read) ∧ EqA (AVal.int IntKind.u64 (nowX x).t) (AVal.int IntKind.u64 (nowX x).t) ∧ EqA
  (AVal.int IntKind.i64 (nowX x).ret) (AVal.int IntKind.i64 (nowX x).ret) ∧ EqA (AVal.bool (nowX x).give) (AVal.bool (nowX x).give) ∧ True) ∧ (True ∧ EqA (AVal.int
  IntKind.i64 (nowX x).line) (AVal.int IntKind.i64 (nowX x).line) ∧ EqA (AVal.int IntKind.i64 (nowX x).op.k) (AVal.int IntKind.i64 (nowX x).op.k) ∧ EqA (AVal.int
  IntKind.u64 (nowX x).op.t) (AVal.int IntKind.u64 (nowX x).op.t) ∧ EqA (AVal.int IntKind.u64 (nowX x).op.x) (AVal.int IntKind.u64 (nowX x).op.x) ∧ EqA (AVal.int
  IntKind.i64 (nowX x).op.s) (AVal.int IntKind.i64 (nowX x).op.s) ∧ EqA (AVal.bool (nowX x).op.u) (AVal.bool (nowX x).op.u) ∧ EqA (AVal.int IntKind.i64 (nowX x).op.b)
  (AVal.int IntKind.i64 (nowX x).op.b) ∧ EqA (AVal.int IntKind.i64 (nowX x).op.n) (AVal.int IntKind.i64 (nowX x).op.n) ∧ EqA (AVal.bool (nowX x).pin) (AVal.bool (nowX
  x).pin) ∧ EqA (AVal.int IntKind.u64 (nowX x).e) (AVal.int IntKind.u64 (nowX x).e) ∧ EqA (AVal.list (3 : Nat) (nowX x).rack) (AVal.list (3 : Nat) (nowX x).rack) ∧ EqA
  (AVal.int IntKind.u64 (nowX x).t0) (AVal.int IntKind.u64 (nowX x).t0) ∧ EqA (AVal.list (3 : Nat) (nowX x).l0) (AVal.list (3 : Nat) (nowX x).l0) ∧ EqA (AVal.int
  IntKind.u64 (nowX x).t1) (AVal.int IntKind.u64 (nowX x).t1) ∧ EqA (AVal.list (3 : Nat) (nowX x).l1) (AVal.list (3 : Nat) (nowX x).l1) ∧ EqA (AVal.int IntKind.u64 (nowX
  x).t2) (AVal.int IntKind.u64 (nowX x).t2) ∧ EqA (AVal.list (3 : Nat) (nowX x).l2) (AVal.list (3 : Nat) (nowX x).l2) ∧ EqA (AVal.list (3 : Nat) (nowX x).hold) (AVal.list
  (3 : Nat) (nowX x).hold) ∧ EqA (AVal.int IntKind.i64 (nowX x).b) (AVal.int IntKind.i64 (nowX x).b) ∧ EqA (AVal.int IntKind.i64 (nowX x).k) (AVal.int IntKind.i64 (nowX
  x).k) ∧ EqA (AVal.int IntKind.i64 (nowX x).i) (AVal.int IntKind.i64 (nowX x).i) ∧ EqA (AVal.int IntKind.i64 (nowX x).c) (AVal.int IntKind.i64 (nowX x).c) ∧ EqA (AVal.int
  IntKind.i64 (nowX x).bor) (AVal.int IntKind.i64 (nowX x).bor) ∧ EqA (AVal.int IntKind.u64 (nowX x).h) (AVal.int IntKind.u64 (nowX x).h) ∧ EqA (AVal.int IntKind.u64 (nowX
  x).n) (AVal.int IntKind.u64 (nowX x).n) ∧ EqA (AVal.int IntKind.u64 (nowX x).v) (AVal.int IntKind.u64 (nowX x).v) ∧ EqA (AVal.int IntKind.u64 (nowX x).u) (AVal.int
  IntKind.u64 (nowX x).u) ∧ EqA (AVal.int IntKind.u64 (nowX x).g) (AVal.int IntKind.u64 (nowX x).g) ∧ EqA (AVal.int IntKind.i64 (nowX x).j) (AVal.int IntKind.i64 (nowX
  x).j) ∧ EqA (AVal.list (22 : Nat) (nowX x).read) (AVal.list (22 : Nat) (nowX x).read) ∧ EqA (AVal.int IntKind.u64 (nowX x).t) (AVal.int IntKind.u64 (nowX x).t) ∧ EqA
  (AVal.int IntKind.i64 (nowX x).ret) (AVal.int IntKind.i64 (nowX x).ret) ∧ EqA (AVal.bool (nowX x).give) (AVal.bool (nowX x).give) ∧ True) ∧ True) ∧ True)) (Easy x ∧ cnd
  ((countW x == IntKind.wrap IntKind.i64 (IntKind.wrap IntKind.i64 (IntKind.wrap IntKind.i64 ((0 : Int) + (↑(List.length x.l0) : Int)) + (↑(List.length x.l1) : Int)) +
  (↑(List.length x.l2) : Int))) == true) (Easy x ∧ cnd ((waitsW (x, b) == (hasS x.l0 b || hasS x.l1 b || hasS (List.take s x.l2) b)) == true) (Bear x ∧ cnd (sameW x x ==
  true) (Bear (nowX x) ∧ K (AVal.bool (sameW (nowX x) (nowX x)))) (K (AVal.bool false))) (K (AVal.bool false))) (K (AVal.bool false))))))) (K (AVal.bool false))) (K
  (AVal.bool false))) (K (AVal.bool false))) (K (AVal.bool false)))) := by kernel_rfl

end Go.Proofs.Ytggaecdhgbdilaa
