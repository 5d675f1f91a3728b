/- What the example and the law of the moves come to, by the executor; printed by a program of mine. No condition. -/
import Derived.Test.YtggaecdhgbdilaaRack6
set_option linter.unusedVariables false
set_option maxRecDepth 100000
set_option maxHeartbeats 4000000
namespace Go.Proofs.Ytggaecdhgbdilaa
open Go Go.Ax

theorem vc_awake (K : AVal El → Prop) : aexecF cnd cx ΓW noSpec 100 Try.f9 (codeOf Try.f9) [] [] (fun y _ => K y) = ( Nat.le (0 : Nat) (100000 : Nat) ∧ (((0 : Nat) + (1 :
  Nat)) * (8 : Nat) ≤ (140737488355328 : Nat) ∧ (0 : Nat) + (1 : Nat) ≤ (140737488355328 : Nat)) ∧ ((0 : Int) ≤ (0 : Int) ∧ (0 : Int) < (↑(1 : Nat) : Int)) ∧ (0 : Nat) < (1
  : Nat) ∧ ((0 : Int) ≤ (0 : Int) ∧ (0 : Int) ≤ (0 : Int) ∧ (0 : Int) ≤ (↑(1 : Nat) : Int)) ∧ K (AVal.bool true)) := by kernel_rfl

theorem vc_moves (K : AVal El → Prop) (c : Cfg) (x : Wk) (b : Int) (l : List Int) : aexecF cnd cx Γ6 noSpec 200 Try.f4 (codeOf Try.f4) (aMoves.enc (c, x, b, l)) [] (fun y
  _ => K y) = ( True ∧ True ∧ cnd (greatW x == false) (cnd (decide ((↑(List.length l) : Int) > (40 : Int))) (K (AVal.bool true)) (Bear x ∧ Bear x ∧ Bear x ∧ Bear x ∧ Bear x
  ∧ (Bear x ∧ small l) ∧ (Bear x ∧ small l) ∧ (Bear x ∧ small l) ∧ (Bear x ∧ small l) ∧ Bear x ∧ Bear x ∧ cnd ((!(putW (c, x, b)).snd == (putW (c, x, b)).snd) == false)
  (cnd (((takeW x).snd != (takeW x).snd) == false) (cnd (((nextW x).snd != (nextW x).snd) == false) (Bear (putW (c, x, b)).fst ∧ cnd ((!sameW (putW (c, x, b)).fst (putW (c,
  x, b)).fst) == false) (Bear (takeW x).fst ∧ cnd ((!sameW (takeW x).fst (takeW x).fst) == false) (Bear (Wk.mk x.line x.op x.pin x.e x.rack x.t0 x.l0 x.t1 x.l1 x.t2 x.l2
  (x.hold ++ l) x.b x.k x.i x.c x.bor x.h x.n x.v x.u x.g x.j x.read x.t x.ret x.give) ∧ cnd ((!sameW (Wk.mk x.line x.op x.pin x.e x.rack x.t0 x.l0 x.t1 x.l1 x.t2 x.l2
  (x.hold ++ l) x.b x.k x.i x.c x.bor x.h x.n x.v x.u x.g x.j x.read x.t x.ret x.give) (Wk.mk x.line x.op x.pin x.e x.rack x.t0 x.l0 x.t1 x.l1 x.t2 x.l2 (x.hold ++ l) x.b
  x.k x.i x.c x.bor x.h x.n x.v x.u x.g x.j x.read x.t x.ret x.give)) == false) (Bear (nextW x).fst ∧ cnd (!sameW (nextW x).fst (nextW x).fst) (K (AVal.bool false)) (Bear
  (takeW x).fst ∧ (Bear (nextW x).fst ∧ small [(78 : Int), (79 : Int)]) ∧ Bear x ∧ cnd (sameW x x == true) (Bear (putW (c, x, b)).fst ∧ cnd (sameW (putW (c, x, b)).fst
  (putW (c, x, b)).fst == true) (Bear (Wk.mk x.line x.op x.pin x.e x.rack x.t0 x.l0 x.t1 x.l1 x.t2 x.l2 (x.hold ++ l) x.b x.k x.i x.c x.bor x.h x.n x.v x.u x.g x.j x.read
  x.t x.ret x.give) ∧ K (AVal.bool (sameW (Wk.mk x.line x.op x.pin x.e x.rack x.t0 x.l0 x.t1 x.l1 x.t2 x.l2 (x.hold ++ l) x.b x.k x.i x.c x.bor x.h x.n x.v x.u x.g x.j
  x.read x.t x.ret x.give) (Wk.mk x.line x.op x.pin x.e x.rack x.t0 x.l0 x.t1 x.l1 x.t2 x.l2 (x.hold ++ l) x.b x.k x.i x.c x.bor x.h x.n x.v x.u x.g x.j x.read x.t x.ret
  x.give)))) (K (AVal.bool false))) (K (AVal.bool false)))) (K (AVal.bool false))) (K (AVal.bool false))) (K (AVal.bool false))) (K (AVal.bool false))) (K (AVal.bool
  false))) (K (AVal.bool false)))) (K (AVal.bool true))) := by kernel_rfl

end Go.Proofs.Ytggaecdhgbdilaa
