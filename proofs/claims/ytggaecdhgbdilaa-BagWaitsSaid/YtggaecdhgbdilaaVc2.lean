/- What the comparisons of states come to, by the executor; printed by a program of mine. No condition. -/
import Derived.Test.YtggaecdhgbdilaaRack
set_option linter.unusedVariables false
set_option maxRecDepth 100000
set_option maxHeartbeats 4000000
namespace Go.Proofs.Ytggaecdhgbdilaa
open Go Go.Ax

theorem vc_great (K : Bool → Prop) (x : Wk) : aexecF cnd cx noΓ noSpec 100 Try.f10 (codeOf Try.f10) (aWk.enc x) [] (fun y R => rd cdB (settleA R y) K) = ( cnd (decide
  ((↑(List.length x.rack) : Int) > (40 : Int)) == false) (cnd (decide ((↑(List.length x.hold) : Int) > (40 : Int)) == false) (cnd (decide ((↑(List.length x.read) : Int) >
  (40 : Int)) == false) (cnd (decide ((↑(List.length x.l0) : Int) > (40 : Int)) == false) (cnd (decide ((↑(List.length x.l1) : Int) > (40 : Int)) == false) (K (decide
  ((↑(List.length x.l2) : Int) > (40 : Int)))) (K true)) (K true)) (K true)) (K true)) (K true)) := by kernel_rfl

theorem vc_rsame (K : Bool → Prop) (a b : Wk) : aexecF cnd cx Γ2 noSpec 200 Try.f12 (codeOf Try.f12) (aWW.enc (a, b)) [] (fun y R => rd cdB (settleA R y) K) = ( cnd
  ((a.line != b.line) == false) (cnd ((!(a.op.k == b.op.k && (a.op.t == b.op.t && (a.op.x == b.op.x && (a.op.s == b.op.s && (a.op.u == b.op.u && (a.op.b == b.op.b &&
  (a.op.n == b.op.n && true)))))))) == false) (cnd ((!a.pin == b.pin) == false) (cnd ((a.e != b.e) == false) (cnd ((a.b != b.b) == false) (cnd ((a.k != b.k) == false) (cnd
  ((a.i != b.i) == false) (cnd ((a.c != b.c) == false) (cnd (a.bor != b.bor) (K false) (cnd ((a.h != b.h) == false) (cnd ((a.n != b.n) == false) (cnd ((a.v != b.v) ==
  false) (cnd ((a.u != b.u) == false) (cnd ((a.g != b.g) == false) (cnd ((a.j != b.j) == false) (cnd ((a.t != b.t) == false) (cnd ((a.ret != b.ret) == false) (cnd (!a.give
  == b.give) (K false) (cnd ((a.t0 != b.t0) == false) (small a.l0 ∧ cnd (!sameS a.l0 b.l0) (K false) (cnd ((a.t1 != b.t1) == false) (small a.l1 ∧ cnd (!sameS a.l1 b.l1) (K
  false) (cnd ((a.t2 != b.t2) == false) (small a.l2 ∧ cnd (!sameS a.l2 b.l2) (K false) (small a.rack ∧ cnd (sameS a.rack b.rack == true) (small a.hold ∧ cnd (sameS a.hold
  b.hold == true) (small a.read ∧ K (sameS a.read b.read)) (K false)) (K false))) (K false))) (K false))) (K false))) (K false)) (K false)) (K false)) (K false)) (K false))
  (K false)) (K false)) (K false))) (K false)) (K false)) (K false)) (K false)) (K false)) (K false)) (K false)) (K false)) := by kernel_rfl

theorem vc_same (K : Bool → Prop) (a b : Wk) : aexecF cnd cx Γ2 noSpec 200 Try.f11 (codeOf Try.f11) (aWW.enc (a, b)) [] (fun y R => rd cdB (settleA R y) K) = ( cnd ((a.t0
  != b.t0) == false) (small a.l0 ∧ cnd (!sameS a.l0 b.l0) (K false) (cnd ((a.t1 != b.t1) == false) (small a.l1 ∧ cnd (!sameS a.l1 b.l1) (K false) (cnd ((a.t2 != b.t2) ==
  false) (small a.l2 ∧ cnd (!sameS a.l2 b.l2) (K false) (cnd ((a.line == b.line) == true) (cnd ((a.op.k == b.op.k && (a.op.t == b.op.t && (a.op.x == b.op.x && (a.op.s ==
  b.op.s && (a.op.u == b.op.u && (a.op.b == b.op.b && (a.op.n == b.op.n && true))))))) == true) (cnd ((a.pin == b.pin) == true) (cnd ((a.e == b.e) == true) (small a.rack ∧
  cnd (sameS a.rack b.rack == true) (small a.hold ∧ cnd (sameS a.hold b.hold == true) (cnd ((a.b == b.b) == true) (cnd ((a.k == b.k) == true) (cnd ((a.i == b.i) == true)
  (cnd ((a.c == b.c) == true) (cnd ((a.bor == b.bor) == true) (cnd ((a.h == b.h) == true) (cnd ((a.n == b.n) == true) (cnd ((a.v == b.v) == true) (cnd ((a.u == b.u) ==
  true) (cnd ((a.g == b.g) == true) (cnd ((a.j == b.j) == true) (small a.read ∧ cnd (sameS a.read b.read == true) (cnd ((a.t == b.t) == true) (cnd ((a.ret == b.ret) ==
  true) (K (a.give == b.give)) (K false)) (K false)) (K false)) (K false)) (K false)) (K false)) (K false)) (K false)) (K false)) (K false)) (K false)) (K false)) (K
  false)) (K false)) (K false)) (K false)) (K false)) (K false)) (K false)) (K false))) (K false))) (K false))) (K false)) := by kernel_rfl

end Go.Proofs.Ytggaecdhgbdilaa
