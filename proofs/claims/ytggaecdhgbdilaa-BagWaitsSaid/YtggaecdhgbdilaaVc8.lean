/- What the functions of package bag compute, printed. No condition. -/
import Derived.Test.YtggaecdhgbdilaaBag
set_option linter.unusedVariables false
set_option maxRecDepth 100000
namespace Go.Proofs.Ytggaecdhgbdilaa
open Go Go.Ax

theorem vc_now (K : (Wk × Int) → Prop) (x : Wk) : aexecF cnd cx Γ5 noSpec 200 Try.f39 (codeOf Try.f39) (aWk.enc x) [] (fun y R => rd cdWI (settleA R y) K) = ( ((3 : Int)
  = (0 : Int) → False) ∧ cnd (decide (Int.tmod (IntKind.wrap IntKind.u64 (x.e + (1 : Int))) (3 : Int) = (0 : Int))) (cnd (x.t0 != IntKind.wrap IntKind.u64 (x.e + (1 :
  Int))) ((Bear x ∧ small x.l0) ∧ (Bear x ∧ small x.l0) ∧ K (Wk.mk x.line x.op x.pin x.e x.rack (IntKind.wrap IntKind.u64 (x.e + (1 : Int))) [] x.t1 x.l1 x.t2 x.l2 (x.hold
  ++ x.l0) x.b x.k x.i x.c x.bor x.h x.n x.v x.u x.g x.j x.read x.t x.ret x.give, (0 : Int))) (K (x, (0 : Int)))) (cnd (decide (Int.tmod (IntKind.wrap IntKind.u64 (x.e + (1
  : Int))) (3 : Int) = (1 : Int))) (cnd (x.t1 != IntKind.wrap IntKind.u64 (x.e + (1 : Int))) ((Bear x ∧ small x.l1) ∧ (Bear x ∧ small x.l1) ∧ K (Wk.mk x.line x.op x.pin x.e
  x.rack x.t0 x.l0 (IntKind.wrap IntKind.u64 (x.e + (1 : Int))) [] x.t2 x.l2 (x.hold ++ x.l1) x.b x.k x.i x.c x.bor x.h x.n x.v x.u x.g x.j x.read x.t x.ret x.give, (1 :
  Int))) (K (x, (1 : Int)))) (Int.tmod (IntKind.wrap IntKind.u64 (x.e + (1 : Int))) (3 : Int) = (2 : Int) ∧ cnd (x.t2 != IntKind.wrap IntKind.u64 (x.e + (1 : Int))) ((Bear
  x ∧ small x.l2) ∧ (Bear x ∧ small x.l2) ∧ K (Wk.mk x.line x.op x.pin x.e x.rack x.t0 x.l0 x.t1 x.l1 (IntKind.wrap IntKind.u64 (x.e + (1 : Int))) [] (x.hold ++ x.l2) x.b
  x.k x.i x.c x.bor x.h x.n x.v x.u x.g x.j x.read x.t x.ret x.give, (2 : Int))) (K (x, (2 : Int)))))) := by kernel_rfl

theorem vc_rroom (K : (Wk × Bool) → Prop) (c : Cfg) (x : Wk) : aexecF cnd cx Γ5 noSpec 200 Try.f28 (codeOf Try.f28) (aRoom.enc (c, x)) [] (fun y R => rd cdWB (settleA R
  y) K) = ( ((3 : Int) = (0 : Int) → False) ∧ cnd (decide (Int.tmod (IntKind.wrap IntKind.u64 (x.e + (1 : Int))) (3 : Int) = (0 : Int))) (cnd (x.t0 != IntKind.wrap
  IntKind.u64 (x.e + (1 : Int))) ((Bear x ∧ small x.l0) ∧ (Bear x ∧ small x.l0) ∧ K (Wk.mk x.line x.op x.pin x.e x.rack (IntKind.wrap IntKind.u64 (x.e + (1 : Int))) [] x.t1
  x.l1 x.t2 x.l2 (x.hold ++ x.l0) x.b x.k x.i x.c x.bor x.h x.n x.v x.u x.g x.j x.read x.t x.ret x.give, decide ((0 : Int) < c.a))) (K (x, decide ((↑(List.length x.l0) :
  Int) < c.a)))) (cnd (decide (Int.tmod (IntKind.wrap IntKind.u64 (x.e + (1 : Int))) (3 : Int) = (1 : Int))) (cnd (x.t1 != IntKind.wrap IntKind.u64 (x.e + (1 : Int)))
  ((Bear x ∧ small x.l1) ∧ (Bear x ∧ small x.l1) ∧ K (Wk.mk x.line x.op x.pin x.e x.rack x.t0 x.l0 (IntKind.wrap IntKind.u64 (x.e + (1 : Int))) [] x.t2 x.l2 (x.hold ++
  x.l1) x.b x.k x.i x.c x.bor x.h x.n x.v x.u x.g x.j x.read x.t x.ret x.give, decide ((0 : Int) < c.a))) (K (x, decide ((↑(List.length x.l1) : Int) < c.a)))) (Int.tmod
  (IntKind.wrap IntKind.u64 (x.e + (1 : Int))) (3 : Int) = (2 : Int) ∧ cnd (x.t2 != IntKind.wrap IntKind.u64 (x.e + (1 : Int))) ((Bear x ∧ small x.l2) ∧ (Bear x ∧ small
  x.l2) ∧ K (Wk.mk x.line x.op x.pin x.e x.rack x.t0 x.l0 x.t1 x.l1 (IntKind.wrap IntKind.u64 (x.e + (1 : Int))) [] (x.hold ++ x.l2) x.b x.k x.i x.c x.bor x.h x.n x.v x.u
  x.g x.j x.read x.t x.ret x.give, decide ((0 : Int) < c.a))) (K (x, decide ((↑(List.length x.l2) : Int) < c.a)))))) := by kernel_rfl

theorem vc_count (K : Int → Prop) (x : Wk) : aexecF cnd cx Γ5 noSpec 200 Try.f26 (codeOf Try.f26) (aWk.enc x) [] (fun y R => rd aI (settleA R y) K) = ( K (IntKind.wrap
  IntKind.i64 (IntKind.wrap IntKind.i64 (IntKind.wrap IntKind.i64 ((0 : Int) + (↑(List.length x.l0) : Int)) + (↑(List.length x.l1) : Int)) + (↑(List.length x.l2) : Int))))
  := by kernel_rfl

theorem vc_ripe (K : Wk → Prop) (x : Wk) (ep : Int) : aexecF cnd cx Γ5 noSpec 200 Try.f25 (codeOf Try.f25) (aRipe.enc (x, ep)) [] (fun y R => rd aWk (settleA R y) K) = (
  cnd (decide (ep ≥ (2 : Int)) == true) (cnd (decide (x.t0 ≤ IntKind.wrap IntKind.u64 (ep - (2 : Int)))) ((Bear x ∧ small x.l0) ∧ cnd (decide (ep ≥ (2 : Int)) == true) (cnd
  (decide (x.t1 ≤ IntKind.wrap IntKind.u64 (ep - (2 : Int)))) ((Bear (Wk.mk x.line x.op x.pin x.e x.rack (0 : Int) [] x.t1 x.l1 x.t2 x.l2 (x.hold ++ x.l0) x.b x.k x.i x.c
  x.bor x.h x.n x.v x.u x.g x.j x.read x.t x.ret x.give) ∧ small x.l1) ∧ cnd (decide (ep ≥ (2 : Int)) == true) (cnd (decide (x.t2 ≤ IntKind.wrap IntKind.u64 (ep - (2 :
  Int)))) ((Bear (Wk.mk x.line x.op x.pin x.e x.rack (0 : Int) [] (0 : Int) [] x.t2 x.l2 (x.hold ++ x.l0 ++ x.l1) x.b x.k x.i x.c x.bor x.h x.n x.v x.u x.g x.j x.read x.t
  x.ret x.give) ∧ small x.l2) ∧ K (Wk.mk x.line x.op x.pin x.e x.rack (0 : Int) [] (0 : Int) [] (0 : Int) [] (x.hold ++ x.l0 ++ x.l1 ++ x.l2) x.b x.k x.i x.c x.bor x.h x.n
  x.v x.u x.g x.j x.read x.t x.ret x.give)) (K (Wk.mk x.line x.op x.pin x.e x.rack (0 : Int) [] (0 : Int) [] x.t2 x.l2 (x.hold ++ x.l0 ++ x.l1) x.b x.k x.i x.c x.bor x.h
  x.n x.v x.u x.g x.j x.read x.t x.ret x.give))) (K (Wk.mk x.line x.op x.pin x.e x.rack (0 : Int) [] (0 : Int) [] x.t2 x.l2 (x.hold ++ x.l0 ++ x.l1) x.b x.k x.i x.c x.bor
  x.h x.n x.v x.u x.g x.j x.read x.t x.ret x.give))) (cnd (decide (ep ≥ (2 : Int)) == true) (cnd (decide (x.t2 ≤ IntKind.wrap IntKind.u64 (ep - (2 : Int)))) ((Bear (Wk.mk
  x.line x.op x.pin x.e x.rack (0 : Int) [] x.t1 x.l1 x.t2 x.l2 (x.hold ++ x.l0) x.b x.k x.i x.c x.bor x.h x.n x.v x.u x.g x.j x.read x.t x.ret x.give) ∧ small x.l2) ∧ K
  (Wk.mk x.line x.op x.pin x.e x.rack (0 : Int) [] x.t1 x.l1 (0 : Int) [] (x.hold ++ x.l0 ++ x.l2) x.b x.k x.i x.c x.bor x.h x.n x.v x.u x.g x.j x.read x.t x.ret x.give))
  (K (Wk.mk x.line x.op x.pin x.e x.rack (0 : Int) [] x.t1 x.l1 x.t2 x.l2 (x.hold ++ x.l0) x.b x.k x.i x.c x.bor x.h x.n x.v x.u x.g x.j x.read x.t x.ret x.give))) (K
  (Wk.mk x.line x.op x.pin x.e x.rack (0 : Int) [] x.t1 x.l1 x.t2 x.l2 (x.hold ++ x.l0) x.b x.k x.i x.c x.bor x.h x.n x.v x.u x.g x.j x.read x.t x.ret x.give)))) (cnd
  (decide (ep ≥ (2 : Int)) == true) (cnd (decide (x.t2 ≤ IntKind.wrap IntKind.u64 (ep - (2 : Int)))) ((Bear (Wk.mk x.line x.op x.pin x.e x.rack (0 : Int) [] x.t1 x.l1 x.t2
  x.l2 (x.hold ++ x.l0) x.b x.k x.i x.c x.bor x.h x.n x.v x.u x.g x.j x.read x.t x.ret x.give) ∧ small x.l2) ∧ K (Wk.mk x.line x.op x.pin x.e x.rack (0 : Int) [] x.t1 x.l1
  (0 : Int) [] (x.hold ++ x.l0 ++ x.l2) x.b x.k x.i x.c x.bor x.h x.n x.v x.u x.g x.j x.read x.t x.ret x.give)) (K (Wk.mk x.line x.op x.pin x.e x.rack (0 : Int) [] x.t1
  x.l1 x.t2 x.l2 (x.hold ++ x.l0) x.b x.k x.i x.c x.bor x.h x.n x.v x.u x.g x.j x.read x.t x.ret x.give))) (K (Wk.mk x.line x.op x.pin x.e x.rack (0 : Int) [] x.t1 x.l1
  x.t2 x.l2 (x.hold ++ x.l0) x.b x.k x.i x.c x.bor x.h x.n x.v x.u x.g x.j x.read x.t x.ret x.give)))) (cnd (decide (ep ≥ (2 : Int)) == true) (cnd (decide (x.t1 ≤
  IntKind.wrap IntKind.u64 (ep - (2 : Int)))) ((Bear x ∧ small x.l1) ∧ cnd (decide (ep ≥ (2 : Int)) == true) (cnd (decide (x.t2 ≤ IntKind.wrap IntKind.u64 (ep - (2 :
  Int)))) ((Bear (Wk.mk x.line x.op x.pin x.e x.rack x.t0 x.l0 (0 : Int) [] x.t2 x.l2 (x.hold ++ x.l1) x.b x.k x.i x.c x.bor x.h x.n x.v x.u x.g x.j x.read x.t x.ret
  x.give) ∧ small x.l2) ∧ K (Wk.mk x.line x.op x.pin x.e x.rack x.t0 x.l0 (0 : Int) [] (0 : Int) [] (x.hold ++ x.l1 ++ x.l2) x.b x.k x.i x.c x.bor x.h x.n x.v x.u x.g x.j
  x.read x.t x.ret x.give)) (K (Wk.mk x.line x.op x.pin x.e x.rack x.t0 x.l0 (0 : Int) [] x.t2 x.l2 (x.hold ++ x.l1) x.b x.k x.i x.c x.bor x.h x.n x.v x.u x.g x.j x.read
  x.t x.ret x.give))) (K (Wk.mk x.line x.op x.pin x.e x.rack x.t0 x.l0 (0 : Int) [] x.t2 x.l2 (x.hold ++ x.l1) x.b x.k x.i x.c x.bor x.h x.n x.v x.u x.g x.j x.read x.t
  x.ret x.give))) (cnd (decide (ep ≥ (2 : Int)) == true) (cnd (decide (x.t2 ≤ IntKind.wrap IntKind.u64 (ep - (2 : Int)))) ((Bear x ∧ small x.l2) ∧ K (Wk.mk x.line x.op
  x.pin x.e x.rack x.t0 x.l0 x.t1 x.l1 (0 : Int) [] (x.hold ++ x.l2) x.b x.k x.i x.c x.bor x.h x.n x.v x.u x.g x.j x.read x.t x.ret x.give)) (K x)) (K x))) (cnd (decide (ep
  ≥ (2 : Int)) == true) (cnd (decide (x.t2 ≤ IntKind.wrap IntKind.u64 (ep - (2 : Int)))) ((Bear x ∧ small x.l2) ∧ K (Wk.mk x.line x.op x.pin x.e x.rack x.t0 x.l0 x.t1 x.l1
  (0 : Int) [] (x.hold ++ x.l2) x.b x.k x.i x.c x.bor x.h x.n x.v x.u x.g x.j x.read x.t x.ret x.give)) (K x)) (K x)))) (cnd (decide (ep ≥ (2 : Int)) == true) (cnd (decide
  (x.t1 ≤ IntKind.wrap IntKind.u64 (ep - (2 : Int)))) ((Bear x ∧ small x.l1) ∧ cnd (decide (ep ≥ (2 : Int)) == true) (cnd (decide (x.t2 ≤ IntKind.wrap IntKind.u64 (ep - (2
  : Int)))) ((Bear (Wk.mk x.line x.op x.pin x.e x.rack x.t0 x.l0 (0 : Int) [] x.t2 x.l2 (x.hold ++ x.l1) x.b x.k x.i x.c x.bor x.h x.n x.v x.u x.g x.j x.read x.t x.ret
  x.give) ∧ small x.l2) ∧ K (Wk.mk x.line x.op x.pin x.e x.rack x.t0 x.l0 (0 : Int) [] (0 : Int) [] (x.hold ++ x.l1 ++ x.l2) x.b x.k x.i x.c x.bor x.h x.n x.v x.u x.g x.j
  x.read x.t x.ret x.give)) (K (Wk.mk x.line x.op x.pin x.e x.rack x.t0 x.l0 (0 : Int) [] x.t2 x.l2 (x.hold ++ x.l1) x.b x.k x.i x.c x.bor x.h x.n x.v x.u x.g x.j x.read
  x.t x.ret x.give))) (K (Wk.mk x.line x.op x.pin x.e x.rack x.t0 x.l0 (0 : Int) [] x.t2 x.l2 (x.hold ++ x.l1) x.b x.k x.i x.c x.bor x.h x.n x.v x.u x.g x.j x.read x.t
  x.ret x.give))) (cnd (decide (ep ≥ (2 : Int)) == true) (cnd (decide (x.t2 ≤ IntKind.wrap IntKind.u64 (ep - (2 : Int)))) ((Bear x ∧ small x.l2) ∧ K (Wk.mk x.line x.op
  x.pin x.e x.rack x.t0 x.l0 x.t1 x.l1 (0 : Int) [] (x.hold ++ x.l2) x.b x.k x.i x.c x.bor x.h x.n x.v x.u x.g x.j x.read x.t x.ret x.give)) (K x)) (K x))) (cnd (decide (ep
  ≥ (2 : Int)) == true) (cnd (decide (x.t2 ≤ IntKind.wrap IntKind.u64 (ep - (2 : Int)))) ((Bear x ∧ small x.l2) ∧ K (Wk.mk x.line x.op x.pin x.e x.rack x.t0 x.l0 x.t1 x.l1
  (0 : Int) [] (x.hold ++ x.l2) x.b x.k x.i x.c x.bor x.h x.n x.v x.u x.g x.j x.read x.t x.ret x.give)) (K x)) (K x)))) := by kernel_rfl

theorem vc_rripe (K : Wk → Prop) (x : Wk) (ep : Int) : aexecF cnd cx ΓI noSpec 200 Try.f30 (codeOf Try.f30) (aRipe.enc (x, ep)) [] (fun y R => rd aWk (settleA R y) K) = (
  cnd (decide (ep > (1 : Int)) == true) (cnd (decide (IntKind.wrap IntKind.u64 (ep - (2 : Int)) ≥ x.t0)) ((Bear x ∧ small x.l0) ∧ (Bear x ∧ small x.l0) ∧ cnd (decide (ep >
  (1 : Int)) == true) (cnd (decide (IntKind.wrap IntKind.u64 (ep - (2 : Int)) ≥ x.t1)) ((Bear (Wk.mk x.line x.op x.pin x.e x.rack (0 : Int) [] x.t1 x.l1 x.t2 x.l2 (x.hold
  ++ x.l0) x.b x.k x.i x.c x.bor x.h x.n x.v x.u x.g x.j x.read x.t x.ret x.give) ∧ small x.l1) ∧ (Bear (Wk.mk x.line x.op x.pin x.e x.rack (0 : Int) [] x.t1 x.l1 x.t2 x.l2
  (x.hold ++ x.l0) x.b x.k x.i x.c x.bor x.h x.n x.v x.u x.g x.j x.read x.t x.ret x.give) ∧ small x.l1) ∧ cnd (decide (ep > (1 : Int)) == true) (cnd (decide (IntKind.wrap
  IntKind.u64 (ep - (2 : Int)) ≥ x.t2)) ((Bear (Wk.mk x.line x.op x.pin x.e x.rack (0 : Int) [] (0 : Int) [] x.t2 x.l2 (x.hold ++ x.l0 ++ x.l1) x.b x.k x.i x.c x.bor x.h
  x.n x.v x.u x.g x.j x.read x.t x.ret x.give) ∧ small x.l2) ∧ (Bear (Wk.mk x.line x.op x.pin x.e x.rack (0 : Int) [] (0 : Int) [] x.t2 x.l2 (x.hold ++ x.l0 ++ x.l1) x.b
  x.k x.i x.c x.bor x.h x.n x.v x.u x.g x.j x.read x.t x.ret x.give) ∧ small x.l2) ∧ K (Wk.mk x.line x.op x.pin x.e x.rack (0 : Int) [] (0 : Int) [] (0 : Int) [] (x.hold ++
  x.l0 ++ x.l1 ++ x.l2) x.b x.k x.i x.c x.bor x.h x.n x.v x.u x.g x.j x.read x.t x.ret x.give)) (K (Wk.mk x.line x.op x.pin x.e x.rack (0 : Int) [] (0 : Int) [] x.t2 x.l2
  (x.hold ++ x.l0 ++ x.l1) x.b x.k x.i x.c x.bor x.h x.n x.v x.u x.g x.j x.read x.t x.ret x.give))) (K (Wk.mk x.line x.op x.pin x.e x.rack (0 : Int) [] (0 : Int) [] x.t2
  x.l2 (x.hold ++ x.l0 ++ x.l1) x.b x.k x.i x.c x.bor x.h x.n x.v x.u x.g x.j x.read x.t x.ret x.give))) (cnd (decide (ep > (1 : Int)) == true) (cnd (decide (IntKind.wrap
  IntKind.u64 (ep - (2 : Int)) ≥ x.t2)) ((Bear (Wk.mk x.line x.op x.pin x.e x.rack (0 : Int) [] x.t1 x.l1 x.t2 x.l2 (x.hold ++ x.l0) x.b x.k x.i x.c x.bor x.h x.n x.v x.u
  x.g x.j x.read x.t x.ret x.give) ∧ small x.l2) ∧ (Bear (Wk.mk x.line x.op x.pin x.e x.rack (0 : Int) [] x.t1 x.l1 x.t2 x.l2 (x.hold ++ x.l0) x.b x.k x.i x.c x.bor x.h x.n
  x.v x.u x.g x.j x.read x.t x.ret x.give) ∧ small x.l2) ∧ K (Wk.mk x.line x.op x.pin x.e x.rack (0 : Int) [] x.t1 x.l1 (0 : Int) [] (x.hold ++ x.l0 ++ x.l2) x.b x.k x.i
  x.c x.bor x.h x.n x.v x.u x.g x.j x.read x.t x.ret x.give)) (K (Wk.mk x.line x.op x.pin x.e x.rack (0 : Int) [] x.t1 x.l1 x.t2 x.l2 (x.hold ++ x.l0) x.b x.k x.i x.c x.bor
  x.h x.n x.v x.u x.g x.j x.read x.t x.ret x.give))) (K (Wk.mk x.line x.op x.pin x.e x.rack (0 : Int) [] x.t1 x.l1 x.t2 x.l2 (x.hold ++ x.l0) x.b x.k x.i x.c x.bor x.h x.n
  x.v x.u x.g x.j x.read x.t x.ret x.give)))) (cnd (decide (ep > (1 : Int)) == true) (cnd (decide (IntKind.wrap IntKind.u64 (ep - (2 : Int)) ≥ x.t2)) ((Bear (Wk.mk x.line
  x.op x.pin x.e x.rack (0 : Int) [] x.t1 x.l1 x.t2 x.l2 (x.hold ++ x.l0) x.b x.k x.i x.c x.bor x.h x.n x.v x.u x.g x.j x.read x.t x.ret x.give) ∧ small x.l2) ∧ (Bear
  (Wk.mk x.line x.op x.pin x.e x.rack (0 : Int) [] x.t1 x.l1 x.t2 x.l2 (x.hold ++ x.l0) x.b x.k x.i x.c x.bor x.h x.n x.v x.u x.g x.j x.read x.t x.ret x.give) ∧ small x.l2)
  ∧ K (Wk.mk x.line x.op x.pin x.e x.rack (0 : Int) [] x.t1 x.l1 (0 : Int) [] (x.hold ++ x.l0 ++ x.l2) x.b x.k x.i x.c x.bor x.h x.n x.v x.u x.g x.j x.read x.t x.ret
  x.give)) (K (Wk.mk x.line x.op x.pin x.e x.rack (0 : Int) [] x.t1 x.l1 x.t2 x.l2 (x.hold ++ x.l0) x.b x.k x.i x.c x.bor x.h x.n x.v x.u x.g x.j x.read x.t x.ret x.give)))
  (K (Wk.mk x.line x.op x.pin x.e x.rack (0 : Int) [] x.t1 x.l1 x.t2 x.l2 (x.hold ++ x.l0) x.b x.k x.i x.c x.bor x.h x.n x.v x.u x.g x.j x.read x.t x.ret x.give)))) (cnd
  (decide (ep > (1 : Int)) == true) (cnd (decide (IntKind.wrap IntKind.u64 (ep - (2 : Int)) ≥ x.t1)) ((Bear x ∧ small x.l1) ∧ (Bear x ∧ small x.l1) ∧ cnd (decide (ep > (1 :
  Int)) == true) (cnd (decide (IntKind.wrap IntKind.u64 (ep - (2 : Int)) ≥ x.t2)) ((Bear (Wk.mk x.line x.op x.pin x.e x.rack x.t0 x.l0 (0 : Int) [] x.t2 x.l2 (x.hold ++
  x.l1) x.b x.k x.i x.c x.bor x.h x.n x.v x.u x.g x.j x.read x.t x.ret x.give) ∧ small x.l2) ∧ (Bear (Wk.mk x.line x.op x.pin x.e x.rack x.t0 x.l0 (0 : Int) [] x.t2 x.l2
  (x.hold ++ x.l1) x.b x.k x.i x.c x.bor x.h x.n x.v x.u x.g x.j x.read x.t x.ret x.give) ∧ small x.l2) ∧ K (Wk.mk x.line x.op x.pin x.e x.rack x.t0 x.l0 (0 : Int) [] (0 :
  Int) [] (x.hold ++ x.l1 ++ x.l2) x.b x.k x.i x.c x.bor x.h x.n x.v x.u x.g x.j x.read x.t x.ret x.give)) (K (Wk.mk x.line x.op x.pin x.e x.rack x.t0 x.l0 (0 : Int) []
  x.t2 x.l2 (x.hold ++ x.l1) x.b x.k x.i x.c x.bor x.h x.n x.v x.u x.g x.j x.read x.t x.ret x.give))) (K (Wk.mk x.line x.op x.pin x.e x.rack x.t0 x.l0 (0 : Int) [] x.t2
  x.l2 (x.hold ++ x.l1) x.b x.k x.i x.c x.bor x.h x.n x.v x.u x.g x.j x.read x.t x.ret x.give))) (cnd (decide (ep > (1 : Int)) == true) (cnd (decide (IntKind.wrap
  IntKind.u64 (ep - (2 : Int)) ≥ x.t2)) ((Bear x ∧ small x.l2) ∧ (Bear x ∧ small x.l2) ∧ K (Wk.mk x.line x.op x.pin x.e x.rack x.t0 x.l0 x.t1 x.l1 (0 : Int) [] (x.hold ++
  x.l2) x.b x.k x.i x.c x.bor x.h x.n x.v x.u x.g x.j x.read x.t x.ret x.give)) (K x)) (K x))) (cnd (decide (ep > (1 : Int)) == true) (cnd (decide (IntKind.wrap IntKind.u64
  (ep - (2 : Int)) ≥ x.t2)) ((Bear x ∧ small x.l2) ∧ (Bear x ∧ small x.l2) ∧ K (Wk.mk x.line x.op x.pin x.e x.rack x.t0 x.l0 x.t1 x.l1 (0 : Int) [] (x.hold ++ x.l2) x.b x.k
  x.i x.c x.bor x.h x.n x.v x.u x.g x.j x.read x.t x.ret x.give)) (K x)) (K x)))) (cnd (decide (ep > (1 : Int)) == true) (cnd (decide (IntKind.wrap IntKind.u64 (ep - (2 :
  Int)) ≥ x.t1)) ((Bear x ∧ small x.l1) ∧ (Bear x ∧ small x.l1) ∧ cnd (decide (ep > (1 : Int)) == true) (cnd (decide (IntKind.wrap IntKind.u64 (ep - (2 : Int)) ≥ x.t2))
  ((Bear (Wk.mk x.line x.op x.pin x.e x.rack x.t0 x.l0 (0 : Int) [] x.t2 x.l2 (x.hold ++ x.l1) x.b x.k x.i x.c x.bor x.h x.n x.v x.u x.g x.j x.read x.t x.ret x.give) ∧
  small x.l2) ∧ (Bear (Wk.mk x.line x.op x.pin x.e x.rack x.t0 x.l0 (0 : Int) [] x.t2 x.l2 (x.hold ++ x.l1) x.b x.k x.i x.c x.bor x.h x.n x.v x.u x.g x.j x.read x.t x.ret
  x.give) ∧ small x.l2) ∧ K (Wk.mk x.line x.op x.pin x.e x.rack x.t0 x.l0 (0 : Int) [] (0 : Int) [] (x.hold ++ x.l1 ++ x.l2) x.b x.k x.i x.c x.bor x.h x.n x.v x.u x.g x.j
  x.read x.t x.ret x.give)) (K (Wk.mk x.line x.op x.pin x.e x.rack x.t0 x.l0 (0 : Int) [] x.t2 x.l2 (x.hold ++ x.l1) x.b x.k x.i x.c x.bor x.h x.n x.v x.u x.g x.j x.read
  x.t x.ret x.give))) (K (Wk.mk x.line x.op x.pin x.e x.rack x.t0 x.l0 (0 : Int) [] x.t2 x.l2 (x.hold ++ x.l1) x.b x.k x.i x.c x.bor x.h x.n x.v x.u x.g x.j x.read x.t
  x.ret x.give))) (cnd (decide (ep > (1 : Int)) == true) (cnd (decide (IntKind.wrap IntKind.u64 (ep - (2 : Int)) ≥ x.t2)) ((Bear x ∧ small x.l2) ∧ (Bear x ∧ small x.l2) ∧ K
  (Wk.mk x.line x.op x.pin x.e x.rack x.t0 x.l0 x.t1 x.l1 (0 : Int) [] (x.hold ++ x.l2) x.b x.k x.i x.c x.bor x.h x.n x.v x.u x.g x.j x.read x.t x.ret x.give)) (K x)) (K
  x))) (cnd (decide (ep > (1 : Int)) == true) (cnd (decide (IntKind.wrap IntKind.u64 (ep - (2 : Int)) ≥ x.t2)) ((Bear x ∧ small x.l2) ∧ (Bear x ∧ small x.l2) ∧ K (Wk.mk
  x.line x.op x.pin x.e x.rack x.t0 x.l0 x.t1 x.l1 (0 : Int) [] (x.hold ++ x.l2) x.b x.k x.i x.c x.bor x.h x.n x.v x.u x.g x.j x.read x.t x.ret x.give)) (K x)) (K x)))) :=
  by kernel_rfl

theorem vc_waits (K : Bool → Prop) (x : Wk) (b : Int) : aexecF cnd cx ΓC3 noSpec 200 Try.f31 (codeOf Try.f31) (aWaits.enc (x, b)) [] (fun y R => rd cdB (settleA R y) K) =
  ( small x.l0 ∧ cnd (hasS x.l0 b) (K true) (small x.l1 ∧ cnd (hasS x.l1 b) (K true) (small x.l2 ∧ cnd (hasS x.l2 b) (K true) (K false)))) := by kernel_rfl

end Go.Proofs.Ytggaecdhgbdilaa
