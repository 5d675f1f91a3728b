/- What the copies of states come to, by the executor; printed by a program of mine. No condition. -/
import Derived.Test.YtggaecdhgbdilaaRack3
set_option linter.unusedVariables false
set_option maxRecDepth 100000
set_option maxHeartbeats 4000000
namespace Go.Proofs.Ytggaecdhgbdilaa
open Go Go.Ax

theorem vc_rcopy (K : Wk → Prop) (x : Wk) : aexecF cnd cx Γ2 noSpec 200 Try.f13 (codeOf Try.f13) (aWk.enc x) [] (fun y R => rd aWk (settleA R y) K) = ( (((0 : Nat) +
  List.length x.rack) * (8 : Nat) ≤ (140737488355328 : Nat) ∧ (0 : Nat) + List.length x.rack ≤ (140737488355328 : Nat)) ∧ (((0 : Nat) + List.length x.hold) * (8 : Nat) ≤
  (140737488355328 : Nat) ∧ (0 : Nat) + List.length x.hold ≤ (140737488355328 : Nat)) ∧ (((0 : Nat) + List.length x.read) * (8 : Nat) ≤ (140737488355328 : Nat) ∧ (0 : Nat)
  + List.length x.read ≤ (140737488355328 : Nat)) ∧ (((0 : Nat) + List.length x.l0) * (8 : Nat) ≤ (140737488355328 : Nat) ∧ (0 : Nat) + List.length x.l0 ≤ (140737488355328
  : Nat)) ∧ (((0 : Nat) + List.length x.l1) * (8 : Nat) ≤ (140737488355328 : Nat) ∧ (0 : Nat) + List.length x.l1 ≤ (140737488355328 : Nat)) ∧ (((0 : Nat) + List.length
  x.l2) * (8 : Nat) ≤ (140737488355328 : Nat) ∧ (0 : Nat) + List.length x.l2 ≤ (140737488355328 : Nat)) ∧ K (Wk.mk x.line x.op x.pin x.e ([] ++ x.rack) x.t0 ([] ++ x.l0)
  x.t1 ([] ++ x.l1) x.t2 ([] ++ x.l2) ([] ++ x.hold) x.b x.k x.i x.c x.bor x.h x.n x.v x.u x.g x.j ([] ++ x.read) x.t x.ret x.give)) := by kernel_rfl

theorem vc_copy (x : Wk) : aexecF cnd cx Γ2 noSpec 200 Try.f14 (codeOf Try.f14) (aWk.enc x) [] (fun y R => endFit R y (tCopy x).2.1 (tCopy x).2.2) = ( small x.rack ∧
  small x.rack ∧ small x.hold ∧ small x.read ∧ small x.l0 ∧ small x.l1 ∧ small x.l2 ∧ (EqA (AVal.int IntKind.i64 x.line) (AVal.int IntKind.i64 x.line) ∧ EqA (AVal.int
  IntKind.i64 x.op.k) (AVal.int IntKind.i64 x.op.k) ∧ EqA (AVal.int IntKind.u64 x.op.t) (AVal.int IntKind.u64 x.op.t) ∧ EqA (AVal.int IntKind.u64 x.op.x) (AVal.int
  IntKind.u64 x.op.x) ∧ EqA (AVal.int IntKind.i64 x.op.s) (AVal.int IntKind.i64 x.op.s) ∧ EqA (AVal.bool x.op.u) (AVal.bool x.op.u) ∧ EqA (AVal.int IntKind.i64 x.op.b)
  (AVal.int IntKind.i64 x.op.b) ∧ EqA (AVal.int IntKind.i64 x.op.n) (AVal.int IntKind.i64 x.op.n) ∧ EqA (AVal.bool x.pin) (AVal.bool x.pin) ∧ EqA (AVal.int IntKind.u64 x.e)
  (AVal.int IntKind.u64 x.e) ∧ True ∧ EqA (AVal.int IntKind.u64 x.t0) (AVal.int IntKind.u64 x.t0) ∧ True ∧ EqA (AVal.int IntKind.u64 x.t1) (AVal.int IntKind.u64 x.t1) ∧
  True ∧ EqA (AVal.int IntKind.u64 x.t2) (AVal.int IntKind.u64 x.t2) ∧ True ∧ True ∧ EqA (AVal.int IntKind.i64 x.b) (AVal.int IntKind.i64 x.b) ∧ EqA (AVal.int IntKind.i64
  x.k) (AVal.int IntKind.i64 x.k) ∧ EqA (AVal.int IntKind.i64 x.i) (AVal.int IntKind.i64 x.i) ∧ EqA (AVal.int IntKind.i64 x.c) (AVal.int IntKind.i64 x.c) ∧ EqA (AVal.int
  IntKind.i64 x.bor) (AVal.int IntKind.i64 x.bor) ∧ EqA (AVal.int IntKind.u64 x.h) (AVal.int IntKind.u64 x.h) ∧ EqA (AVal.int IntKind.u64 x.n) (AVal.int IntKind.u64 x.n) ∧
  EqA (AVal.int IntKind.u64 x.v) (AVal.int IntKind.u64 x.v) ∧ EqA (AVal.int IntKind.u64 x.u) (AVal.int IntKind.u64 x.u) ∧ EqA (AVal.int IntKind.u64 x.g) (AVal.int
  IntKind.u64 x.g) ∧ EqA (AVal.int IntKind.i64 x.j) (AVal.int IntKind.i64 x.j) ∧ True ∧ EqA (AVal.int IntKind.u64 x.t) (AVal.int IntKind.u64 x.t) ∧ EqA (AVal.int
  IntKind.i64 x.ret) (AVal.int IntKind.i64 x.ret) ∧ EqA (AVal.bool x.give) (AVal.bool x.give) ∧ True) ∧ (EqR (Res.vec (3 : Nat) (id x.rack)) (Res.vec (3 : Nat) x.rack) ∧
  EqR (Res.vec (3 : Nat) (id x.l0)) (Res.vec (3 : Nat) x.l0) ∧ EqR (Res.vec (3 : Nat) (id x.l1)) (Res.vec (3 : Nat) x.l1) ∧ EqR (Res.vec (3 : Nat) (id x.l2)) (Res.vec (3 :
  Nat) x.l2) ∧ EqR (Res.vec (3 : Nat) (id x.hold)) (Res.vec (3 : Nat) x.hold) ∧ EqR (Res.vec (22 : Nat) (id x.read)) (Res.vec (22 : Nat) x.read) ∧ True) ∧ True) := by
  kernel_rfl

end Go.Proofs.Ytggaecdhgbdilaa
