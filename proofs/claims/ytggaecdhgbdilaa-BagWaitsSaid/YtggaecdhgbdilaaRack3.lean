/- A state with lists of its own. No condition. -/
import Derived.Test.YtggaecdhgbdilaaRack2
set_option linter.unusedVariables false
namespace Go.Proofs.Ytggaecdhgbdilaa
open Go Go.Ax

/-- A state whose lists are vectors: rack, hold, read and the three buckets. -/
def ownW (x : Wk) (r h e b0 b1 b2 : Nat) : AVal El := AVal.agg
  [AVal.int IntKind.i64 x.line, AVal.int IntKind.i64 x.op.k, AVal.int IntKind.u64 x.op.t, AVal.int IntKind.u64 x.op.x, AVal.int IntKind.i64 x.op.s, AVal.bool x.op.u, AVal.int IntKind.i64 x.op.b, AVal.int IntKind.i64 x.op.n, AVal.bool x.pin, AVal.int IntKind.u64 x.e,
    AVal.vec r, AVal.int IntKind.u64 x.t0, AVal.vec b0, AVal.int IntKind.u64 x.t1, AVal.vec b1, AVal.int IntKind.u64 x.t2, AVal.vec b2, AVal.vec h, AVal.int IntKind.i64 x.b, AVal.int IntKind.i64 x.k, AVal.int IntKind.i64 x.i, AVal.int IntKind.i64 x.c, AVal.int IntKind.i64 x.bor,
    AVal.int IntKind.u64 x.h, AVal.int IntKind.u64 x.n, AVal.int IntKind.u64 x.v, AVal.int IntKind.u64 x.u, AVal.int IntKind.u64 x.g, AVal.int IntKind.i64 x.j, AVal.vec e, AVal.int IntKind.u64 x.t, AVal.int IntKind.i64 x.ret, AVal.bool x.give]
def ownR (x : Wk) : List (Res El) := [Res.vec (3 : Nat) x.rack, Res.vec (3 : Nat) x.l0, Res.vec (3 : Nat) x.l1, Res.vec (3 : Nat) x.l2, Res.vec (3 : Nat) x.hold, Res.vec (22 : Nat) x.read]
def tCopy (x : Wk) : Prop × AVal El × List (Res El) := (Bear x, ownW x 0 4 5 1 2 3, ownR x)
end Go.Proofs.Ytggaecdhgbdilaa
