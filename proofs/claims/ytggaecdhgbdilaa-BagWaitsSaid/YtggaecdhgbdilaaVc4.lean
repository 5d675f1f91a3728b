/- What the moves of blocks come to, by the executor; printed by a program of mine. No condition. -/
import Derived.Test.YtggaecdhgbdilaaRack5
set_option linter.unusedVariables false
set_option maxRecDepth 100000
set_option maxHeartbeats 4000000
namespace Go.Proofs.Ytggaecdhgbdilaa
open Go Go.Ax

theorem vc_put (K : (Wk × Bool) → Prop) (c : Cfg) (x : Wk) (b : Int) : aexecF cnd cx Γ3 noSpec 200 Try.f15 (codeOf Try.f15) (aPut.enc (c, x, b)) [] (fun y R => rd cdWB
  (settleA R y) K) = ( cnd (decide ((↑(List.length x.rack) : Int) ≥ c.r)) (K (x, false)) (small x.rack ∧ ((List.length (id x.rack) + List.length [b]) * (8 : Nat) ≤
  (140737488355328 : Nat) ∧ List.length (id x.rack) + List.length [b] ≤ (140737488355328 : Nat)) ∧ K (Wk.mk x.line x.op x.pin x.e (id x.rack ++ [b]) x.t0 x.l0 x.t1 x.l1
  x.t2 x.l2 x.hold x.b x.k x.i x.c x.bor x.h x.n x.v x.u x.g x.j x.read x.t x.ret x.give, true))) := by kernel_rfl

theorem vc_rput (K : (Wk × Bool) → Prop) (c : Cfg) (x : Wk) (b : Int) : aexecF cnd cx Γ3 noSpec 200 Try.f16 (codeOf Try.f16) (aPut.enc (c, x, b)) [] (fun y R => rd cdWB
  (settleA R y) K) = ( cnd (decide ((↑(List.length x.rack) : Int) ≥ c.r)) (K (x, false)) ((((0 : Nat) + List.length x.rack) * (8 : Nat) ≤ (140737488355328 : Nat) ∧ (0 :
  Nat) + List.length x.rack ≤ (140737488355328 : Nat)) ∧ ((List.length ([] ++ x.rack) + List.length [b]) * (8 : Nat) ≤ (140737488355328 : Nat) ∧ List.length ([] ++ x.rack)
  + List.length [b] ≤ (140737488355328 : Nat)) ∧ K (Wk.mk x.line x.op x.pin x.e ([] ++ x.rack ++ [b]) x.t0 x.l0 x.t1 x.l1 x.t2 x.l2 x.hold x.b x.k x.i x.c x.bor x.h x.n x.v
  x.u x.g x.j x.read x.t x.ret x.give, true))) := by kernel_rfl

theorem vc_take (K : (Wk × Int) → Prop) (x : Wk) : aexecF cnd cx Γ3 noSpec 200 Try.f17 (codeOf Try.f17) (aWk.enc x) [] (fun y R => rd cdWI (settleA R y) K) = ( cnd
  ((↑(List.length x.rack) : Int) == (0 : Int)) (K (x, (-1 : Int))) (((0 : Int) ≤ IntKind.wrap IntKind.i64 ((↑(List.length x.rack) : Int) - (1 : Int)) ∧ IntKind.wrap
  IntKind.i64 ((↑(List.length x.rack) : Int) - (1 : Int)) < (↑(List.length x.rack) : Int)) ∧ ((0 : Int) ≤ IntKind.wrap IntKind.i64 ((↑(List.length x.rack) : Int) - (1 :
  Int)) ∧ IntKind.wrap IntKind.i64 ((↑(List.length x.rack) : Int) - (1 : Int)) ≤ IntKind.wrap IntKind.i64 ((↑(List.length x.rack) : Int) - (1 : Int)) ∧ IntKind.wrap
  IntKind.i64 ((↑(List.length x.rack) : Int) - (1 : Int)) ≤ (↑(List.length x.rack) : Int)) ∧ K (Wk.mk x.line x.op x.pin x.e (List.take (Int.toNat (IntKind.wrap IntKind.i64
  ((↑(List.length x.rack) : Int) - (1 : Int)))) x.rack) x.t0 x.l0 x.t1 x.l1 x.t2 x.l2 x.hold x.b x.k x.i x.c x.bor x.h x.n x.v x.u x.g x.j x.read x.t x.ret x.give,
  List.getD x.rack (Int.toNat (IntKind.wrap IntKind.i64 ((↑(List.length x.rack) : Int) - (1 : Int)))) (0 : Int)))) := by kernel_rfl

theorem vc_rtake (K : (Wk × Int) → Prop) (x : Wk) : aexecF cnd cx Γ3 noSpec 200 Try.f18 (codeOf Try.f18) (aWk.enc x) [] (fun y R => rd cdWI (settleA R y) K) = ( cnd
  ((↑(List.length x.rack) : Int) == (0 : Int)) (K (x, (-1 : Int))) (((0 : Int) ≤ IntKind.wrap IntKind.i64 ((↑(List.length x.rack) : Int) - (1 : Int)) ∧ IntKind.wrap
  IntKind.i64 ((↑(List.length x.rack) : Int) - (1 : Int)) < (↑(List.length x.rack) : Int)) ∧ ((0 : Int) ≤ IntKind.wrap IntKind.i64 ((↑(List.length x.rack) : Int) - (1 :
  Int)) ∧ IntKind.wrap IntKind.i64 ((↑(List.length x.rack) : Int) - (1 : Int)) ≤ (↑(List.length x.rack) : Int)) ∧ (((0 : Nat) + List.length (List.take (Int.toNat
  (IntKind.wrap IntKind.i64 ((↑(List.length x.rack) : Int) - (1 : Int)))) x.rack)) * (8 : Nat) ≤ (140737488355328 : Nat) ∧ (0 : Nat) + List.length (List.take (Int.toNat
  (IntKind.wrap IntKind.i64 ((↑(List.length x.rack) : Int) - (1 : Int)))) x.rack) ≤ (140737488355328 : Nat)) ∧ K (Wk.mk x.line x.op x.pin x.e ([] ++ List.take (Int.toNat
  (IntKind.wrap IntKind.i64 ((↑(List.length x.rack) : Int) - (1 : Int)))) x.rack) x.t0 x.l0 x.t1 x.l1 x.t2 x.l2 x.hold x.b x.k x.i x.c x.bor x.h x.n x.v x.u x.g x.j x.read
  x.t x.ret x.give, List.getD x.rack (Int.toNat (IntKind.wrap IntKind.i64 ((↑(List.length x.rack) : Int) - (1 : Int)))) (0 : Int)))) := by kernel_rfl

theorem vc_next (K : (Wk × Int) → Prop) (x : Wk) : aexecF cnd cx Γ3 noSpec 200 Try.f21 (codeOf Try.f21) (aWk.enc x) [] (fun y R => rd cdWI (settleA R y) K) = ( cnd
  ((↑(List.length x.hold) : Int) == (0 : Int)) (K (x, (-1 : Int))) (((0 : Int) ≤ (0 : Int) ∧ (0 : Int) < (↑(List.length x.hold) : Int)) ∧ ((0 : Int) ≤ (1 : Int) ∧ (1 : Int)
  ≤ (↑(List.length x.hold) : Int) ∧ (↑(List.length x.hold) : Int) ≤ (↑(List.length x.hold) : Int) ∧ (↑(List.length x.hold) : Int) ≤ (↑(List.length x.hold) : Int)) ∧ K
  (Wk.mk x.line x.op x.pin x.e x.rack x.t0 x.l0 x.t1 x.l1 x.t2 x.l2 (List.drop (1 : Nat) (List.take (Int.toNat (↑(List.length x.hold) : Int)) x.hold)) x.b x.k x.i x.c x.bor
  x.h x.n x.v x.u x.g x.j x.read x.t x.ret x.give, List.getD x.hold (0 : Nat) (0 : Int)))) := by kernel_rfl

theorem vc_rnext (K : (Wk × Int) → Prop) (x : Wk) : aexecF cnd cx Γ3 noSpec 200 Try.f22 (codeOf Try.f22) (aWk.enc x) [] (fun y R => rd cdWI (settleA R y) K) = ( cnd
  ((↑(List.length x.hold) : Int) == (0 : Int)) (K (x, (-1 : Int))) (((0 : Int) ≤ (0 : Int) ∧ (0 : Int) < (↑(List.length x.hold) : Int)) ∧ ((0 : Int) ≤ (1 : Int) ∧ (1 : Int)
  ≤ (↑(List.length x.hold) : Int)) ∧ (((0 : Nat) + List.length (List.drop (1 : Nat) x.hold)) * (8 : Nat) ≤ (140737488355328 : Nat) ∧ (0 : Nat) + List.length (List.drop (1 :
  Nat) x.hold) ≤ (140737488355328 : Nat)) ∧ K (Wk.mk x.line x.op x.pin x.e x.rack x.t0 x.l0 x.t1 x.l1 x.t2 x.l2 ([] ++ List.drop (1 : Nat) x.hold) x.b x.k x.i x.c x.bor x.h
  x.n x.v x.u x.g x.j x.read x.t x.ret x.give, List.getD x.hold (0 : Nat) (0 : Int)))) := by kernel_rfl

theorem vc_hold (K : Wk → Prop) (x : Wk) (l : List Int) : aexecF cnd cx Γ4 noSpec 200 Try.f19 (codeOf Try.f19) (aHold.enc (x, l)) [] (fun y R => rd aWk (settleA R y) K) =
  ( cnd (decide ((↑(List.length l) : Int) > (0 : Int))) (cnd (decide (IntKind.wrap IntKind.i64 ((0 : Int) + (↑(List.length x.hold) : Int)) < (0 : Int))) False (cnd (decide
  (IntKind.wrap IntKind.i64 (IntKind.wrap IntKind.i64 ((0 : Int) + (↑(List.length x.hold) : Int)) + (↑(List.length l) : Int)) < (0 : Int))) False (cnd (decide (IntKind.wrap
  IntKind.i64 (IntKind.wrap IntKind.i64 ((0 : Int) + (↑(List.length x.hold) : Int)) + (↑(List.length l) : Int)) < (0 : Int))) False (cnd (decide (IntKind.wrap IntKind.i64
  (IntKind.wrap IntKind.i64 (IntKind.wrap IntKind.i64 ((0 : Int) + (↑(List.length x.hold) : Int)) + (↑(List.length l) : Int)) - (0 : Int)) > (0 : Int))) ((0 : Int) = (0 :
  Int) ∧ ((0 : Int) < IntKind.wrap IntKind.i64 (IntKind.wrap IntKind.i64 (IntKind.wrap IntKind.i64 ((0 : Int) + (↑(List.length x.hold) : Int)) + (↑(List.length l) : Int)) -
  (0 : Int)) ∧ (↑(8 : Nat) : Int) * IntKind.wrap IntKind.i64 (IntKind.wrap IntKind.i64 (IntKind.wrap IntKind.i64 ((0 : Int) + (↑(List.length x.hold) : Int)) +
  (↑(List.length l) : Int)) - (0 : Int)) ≤ (140737488355328 : Int) ∧ IntKind.wrap IntKind.i64 (IntKind.wrap IntKind.i64 (IntKind.wrap IntKind.i64 ((0 : Int) +
  (↑(List.length x.hold) : Int)) + (↑(List.length l) : Int)) - (0 : Int)) ≤ (140737488355328 : Int)) ∧ ((0 : Int) ≤ (0 : Int) ∧ (0 : Int) ≤ (↑(List.length (List.replicate
  (Int.toNat (IntKind.wrap IntKind.i64 (IntKind.wrap IntKind.i64 (IntKind.wrap IntKind.i64 ((0 : Int) + (↑(List.length x.hold) : Int)) + (↑(List.length l) : Int)) - (0 :
  Int)))) (0 : Int))) : Int)) ∧ ((List.length (List.take (0 : Nat) (List.replicate (Int.toNat (IntKind.wrap IntKind.i64 (IntKind.wrap IntKind.i64 (IntKind.wrap IntKind.i64
  ((0 : Int) + (↑(List.length x.hold) : Int)) + (↑(List.length l) : Int)) - (0 : Int)))) (0 : Int))) + List.length x.hold) * (8 : Nat) ≤ (140737488355328 : Nat) ∧
  List.length (List.take (0 : Nat) (List.replicate (Int.toNat (IntKind.wrap IntKind.i64 (IntKind.wrap IntKind.i64 (IntKind.wrap IntKind.i64 ((0 : Int) + (↑(List.length
  x.hold) : Int)) + (↑(List.length l) : Int)) - (0 : Int)))) (0 : Int))) + List.length x.hold ≤ (140737488355328 : Nat)) ∧ ((List.length (List.take (0 : Nat)
  (List.replicate (Int.toNat (IntKind.wrap IntKind.i64 (IntKind.wrap IntKind.i64 (IntKind.wrap IntKind.i64 ((0 : Int) + (↑(List.length x.hold) : Int)) + (↑(List.length l) :
  Int)) - (0 : Int)))) (0 : Int)) ++ x.hold) + List.length l) * (8 : Nat) ≤ (140737488355328 : Nat) ∧ List.length (List.take (0 : Nat) (List.replicate (Int.toNat
  (IntKind.wrap IntKind.i64 (IntKind.wrap IntKind.i64 (IntKind.wrap IntKind.i64 ((0 : Int) + (↑(List.length x.hold) : Int)) + (↑(List.length l) : Int)) - (0 : Int)))) (0 :
  Int)) ++ x.hold) + List.length l ≤ (140737488355328 : Nat)) ∧ K (Wk.mk x.line x.op x.pin x.e x.rack x.t0 x.l0 x.t1 x.l1 x.t2 x.l2 (List.take (0 : Nat) (List.replicate
  (Int.toNat (IntKind.wrap IntKind.i64 (IntKind.wrap IntKind.i64 (IntKind.wrap IntKind.i64 ((0 : Int) + (↑(List.length x.hold) : Int)) + (↑(List.length l) : Int)) - (0 :
  Int)))) (0 : Int)) ++ x.hold ++ l) x.b x.k x.i x.c x.bor x.h x.n x.v x.u x.g x.j x.read x.t x.ret x.give)) ((((0 : Nat) + List.length x.hold) * (8 : Nat) ≤
  (140737488355328 : Nat) ∧ (0 : Nat) + List.length x.hold ≤ (140737488355328 : Nat)) ∧ ((List.length ([] ++ x.hold) + List.length l) * (8 : Nat) ≤ (140737488355328 : Nat)
  ∧ List.length ([] ++ x.hold) + List.length l ≤ (140737488355328 : Nat)) ∧ K (Wk.mk x.line x.op x.pin x.e x.rack x.t0 x.l0 x.t1 x.l1 x.t2 x.l2 ([] ++ x.hold ++ l) x.b x.k
  x.i x.c x.bor x.h x.n x.v x.u x.g x.j x.read x.t x.ret x.give)))))) (K x)) := by kernel_rfl

theorem vc_rhold (K : Wk → Prop) (x : Wk) (l : List Int) : aexecF cnd cx Γ4 noSpec 200 Try.f20 (codeOf Try.f20) (aHold.enc (x, l)) [] (fun y R => rd aWk (settleA R y) K)
  = ( (((0 : Nat) + List.length x.hold) * (8 : Nat) ≤ (140737488355328 : Nat) ∧ (0 : Nat) + List.length x.hold ≤ (140737488355328 : Nat)) ∧ ((List.length ([] ++ x.hold) +
  List.length l) * (8 : Nat) ≤ (140737488355328 : Nat) ∧ List.length ([] ++ x.hold) + List.length l ≤ (140737488355328 : Nat)) ∧ K (Wk.mk x.line x.op x.pin x.e x.rack x.t0
  x.l0 x.t1 x.l1 x.t2 x.l2 ([] ++ x.hold ++ l) x.b x.k x.i x.c x.bor x.h x.n x.v x.u x.g x.j x.read x.t x.ret x.give)) := by kernel_rfl

end Go.Proofs.Ytggaecdhgbdilaa
