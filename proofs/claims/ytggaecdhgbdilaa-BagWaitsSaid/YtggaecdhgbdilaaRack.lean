/- What the functions of package rack and of its reference compute, in plain Lean. No condition. -/
import Derived.Test.YtggaecdhgbdilaaLists2
set_option linter.unusedVariables false
namespace Go.Proofs.Ytggaecdhgbdilaa
open Go Go.Ax

def greatW (x : Wk) : Bool := decide (40 < x.rack.length ∨ 40 < x.hold.length ∨ 40 < x.read.length ∨ 40 < x.l0.length ∨ 40 < x.l1.length ∨ 40 < x.l2.length)
/-- All lists are of bearable length. -/
structure Bear (x : Wk) : Prop where
  rack : small x.rack
  hold : small x.hold
  read : small x.read
  l0 : small x.l0
  l1 : small x.l1
  l2 : small x.l2
def sameOp (a b : OpD) : Bool := a.k == b.k && (a.t == b.t && (a.x == b.x && (a.s == b.s && (a.u == b.u && (a.b == b.b && (a.n == b.n && true))))))
def sameW (a b : Wk) : Bool := a.t0 == b.t0 && sameS a.l0 b.l0 && (a.t1 == b.t1 && sameS a.l1 b.l1) && (a.t2 == b.t2 && sameS a.l2 b.l2) && (a.line == b.line && sameOp a.op b.op && a.pin == b.pin && a.e == b.e) &&
  (sameS a.rack b.rack && sameS a.hold b.hold && a.b == b.b && a.k == b.k && a.i == b.i && a.c == b.c && a.bor == b.bor) && (a.h == b.h && a.n == b.n && a.v == b.v && a.u == b.u && a.g == b.g && a.j == b.j) &&
  (sameS a.read b.read && a.t == b.t && a.ret == b.ret && a.give == b.give)
def aWW : Cd El (Wk × Wk) := .pair aWk aWk
end Go.Proofs.Ytggaecdhgbdilaa
