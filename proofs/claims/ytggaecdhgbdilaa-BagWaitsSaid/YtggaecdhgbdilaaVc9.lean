/- What the functions of package bag compute, printed. No condition. -/
import Derived.Test.YtggaecdhgbdilaaBag3
set_option linter.unusedVariables false
set_option maxRecDepth 100000
namespace Go.Proofs.Ytggaecdhgbdilaa
open Go Go.Ax

theorem vc_room (K : (Wk × Bool) → Prop) (c : Cfg) (x : Wk) : aexecF cnd cx Γ7 noSpec 200 Try.f27 (codeOf Try.f27) (aRoom.enc (c, x)) [] (fun y R => rd cdWB (settleA R y)
  K) = ( Easy x ∧ cnd (decide (idxW x = (↑(0 : Nat) : Int))) (cnd (decide (idxW x = (↑(0 : Nat) : Int))) (K (nowX x, decide ((↑(List.length (nowX x).l0) : Int) < c.a)))
  (cnd (decide (idxW x = (↑((0 : Nat) + (1 : Nat)) : Int))) (K (nowX x, decide ((↑(List.length (nowX x).l1) : Int) < c.a))) (cnd (decide (idxW x = (↑((0 : Nat) + (1 : Nat)
  + (1 : Nat)) : Int))) (K (nowX x, decide ((↑(List.length (nowX x).l2) : Int) < c.a))) False))) (cnd (decide (idxW x = (↑((0 : Nat) + (1 : Nat)) : Int))) (cnd (decide
  (idxW x = (↑(0 : Nat) : Int))) (K (nowX x, decide ((↑(List.length (nowX x).l0) : Int) < c.a))) (cnd (decide (idxW x = (↑((0 : Nat) + (1 : Nat)) : Int))) (K (nowX x,
  decide ((↑(List.length (nowX x).l1) : Int) < c.a))) (cnd (decide (idxW x = (↑((0 : Nat) + (1 : Nat) + (1 : Nat)) : Int))) (K (nowX x, decide ((↑(List.length (nowX x).l2)
  : Int) < c.a))) False))) (cnd (decide (idxW x = (↑((0 : Nat) + (1 : Nat) + (1 : Nat)) : Int))) (cnd (decide (idxW x = (↑(0 : Nat) : Int))) (K (nowX x, decide
  ((↑(List.length (nowX x).l0) : Int) < c.a))) (cnd (decide (idxW x = (↑((0 : Nat) + (1 : Nat)) : Int))) (K (nowX x, decide ((↑(List.length (nowX x).l1) : Int) < c.a)))
  (cnd (decide (idxW x = (↑((0 : Nat) + (1 : Nat) + (1 : Nat)) : Int))) (K (nowX x, decide ((↑(List.length (nowX x).l2) : Int) < c.a))) False))) False))) := by kernel_rfl

theorem vc_bput (K : (Wk × Bool) → Prop) (c : Cfg) (x : Wk) (b : Int) : aexecF cnd cx Γ8 noSpec 200 Try.f24 (codeOf Try.f24) (aPut.enc (c, x, b)) [] (fun y R => rd cdWB
  (settleA R y) K) = ( Easy x ∧ cnd (!decide ((↑(List.length (bagL (nowX x) (idxW x))) : Int) < c.a)) (K (nowX x, false)) (Easy (nowX x) ∧ cnd (decide (idxW (nowX x) = (↑(0
  : Nat) : Int))) (small (nowX (nowX x)).l0 ∧ ((List.length (id (nowX (nowX x)).l0) + List.length [b]) * (8 : Nat) ≤ (140737488355328 : Nat) ∧ List.length (id (nowX (nowX
  x)).l0) + List.length [b] ≤ (140737488355328 : Nat)) ∧ cnd (decide (idxW (nowX x) = (↑(0 : Nat) : Int))) (K (Wk.mk (nowX (nowX x)).line (nowX (nowX x)).op (nowX (nowX
  x)).pin (nowX (nowX x)).e (nowX (nowX x)).rack (nowX (nowX x)).t0 (id (nowX (nowX x)).l0 ++ [b]) (nowX (nowX x)).t1 (nowX (nowX x)).l1 (nowX (nowX x)).t2 (nowX (nowX
  x)).l2 (nowX (nowX x)).hold (nowX (nowX x)).b (nowX (nowX x)).k (nowX (nowX x)).i (nowX (nowX x)).c (nowX (nowX x)).bor (nowX (nowX x)).h (nowX (nowX x)).n (nowX (nowX
  x)).v (nowX (nowX x)).u (nowX (nowX x)).g (nowX (nowX x)).j (nowX (nowX x)).read (nowX (nowX x)).t (nowX (nowX x)).ret (nowX (nowX x)).give, true)) (cnd (decide (idxW
  (nowX x) = (↑((0 : Nat) + (1 : Nat)) : Int))) (K (Wk.mk (nowX (nowX x)).line (nowX (nowX x)).op (nowX (nowX x)).pin (nowX (nowX x)).e (nowX (nowX x)).rack (nowX (nowX
  x)).t0 (nowX (nowX x)).l0 (nowX (nowX x)).t1 (id (nowX (nowX x)).l0 ++ [b]) (nowX (nowX x)).t2 (nowX (nowX x)).l2 (nowX (nowX x)).hold (nowX (nowX x)).b (nowX (nowX x)).k
  (nowX (nowX x)).i (nowX (nowX x)).c (nowX (nowX x)).bor (nowX (nowX x)).h (nowX (nowX x)).n (nowX (nowX x)).v (nowX (nowX x)).u (nowX (nowX x)).g (nowX (nowX x)).j (nowX
  (nowX x)).read (nowX (nowX x)).t (nowX (nowX x)).ret (nowX (nowX x)).give, true)) (cnd (decide (idxW (nowX x) = (↑((0 : Nat) + (1 : Nat) + (1 : Nat)) : Int))) (K (Wk.mk
  (nowX (nowX x)).line (nowX (nowX x)).op (nowX (nowX x)).pin (nowX (nowX x)).e (nowX (nowX x)).rack (nowX (nowX x)).t0 (nowX (nowX x)).l0 (nowX (nowX x)).t1 (nowX (nowX
  x)).l1 (nowX (nowX x)).t2 (id (nowX (nowX x)).l0 ++ [b]) (nowX (nowX x)).hold (nowX (nowX x)).b (nowX (nowX x)).k (nowX (nowX x)).i (nowX (nowX x)).c (nowX (nowX x)).bor
  (nowX (nowX x)).h (nowX (nowX x)).n (nowX (nowX x)).v (nowX (nowX x)).u (nowX (nowX x)).g (nowX (nowX x)).j (nowX (nowX x)).read (nowX (nowX x)).t (nowX (nowX x)).ret
  (nowX (nowX x)).give, true)) False))) (cnd (decide (idxW (nowX x) = (↑((0 : Nat) + (1 : Nat)) : Int))) (small (nowX (nowX x)).l1 ∧ ((List.length (id (nowX (nowX x)).l1) +
  List.length [b]) * (8 : Nat) ≤ (140737488355328 : Nat) ∧ List.length (id (nowX (nowX x)).l1) + List.length [b] ≤ (140737488355328 : Nat)) ∧ cnd (decide (idxW (nowX x) =
  (↑(0 : Nat) : Int))) (K (Wk.mk (nowX (nowX x)).line (nowX (nowX x)).op (nowX (nowX x)).pin (nowX (nowX x)).e (nowX (nowX x)).rack (nowX (nowX x)).t0 (id (nowX (nowX
  x)).l1 ++ [b]) (nowX (nowX x)).t1 (nowX (nowX x)).l1 (nowX (nowX x)).t2 (nowX (nowX x)).l2 (nowX (nowX x)).hold (nowX (nowX x)).b (nowX (nowX x)).k (nowX (nowX x)).i
  (nowX (nowX x)).c (nowX (nowX x)).bor (nowX (nowX x)).h (nowX (nowX x)).n (nowX (nowX x)).v (nowX (nowX x)).u (nowX (nowX x)).g (nowX (nowX x)).j (nowX (nowX x)).read
  (nowX (nowX x)).t (nowX (nowX x)).ret (nowX (nowX x)).give, true)) (cnd (decide (idxW (nowX x) = (↑((0 : Nat) + (1 : Nat)) : Int))) (K (Wk.mk (nowX (nowX x)).line (nowX
  (nowX x)).op (nowX (nowX x)).pin (nowX (nowX x)).e (nowX (nowX x)).rack (nowX (nowX x)).t0 (nowX (nowX x)).l0 (nowX (nowX x)).t1 (id (nowX (nowX x)).l1 ++ [b]) (nowX
  (nowX x)).t2 (nowX (nowX x)).l2 (nowX (nowX x)).hold (nowX (nowX x)).b (nowX (nowX x)).k (nowX (nowX x)).i (nowX (nowX x)).c (nowX (nowX x)).bor (nowX (nowX x)).h (nowX
  (nowX x)).n (nowX (nowX x)).v (nowX (nowX x)).u (nowX (nowX x)).g (nowX (nowX x)).j (nowX (nowX x)).read (nowX (nowX x)).t (nowX (nowX x)).ret (nowX (nowX x)).give,
  true)) (cnd (decide (idxW (nowX x) = (↑((0 : Nat) + (1 : Nat) + (1 : Nat)) : Int))) (K (Wk.mk (nowX (nowX x)).line (nowX (nowX x)).op (nowX (nowX x)).pin (nowX (nowX
  x)).e (nowX (nowX x)).rack (nowX (nowX x)).t0 (nowX (nowX x)).l0 (nowX (nowX x)).t1 (nowX (nowX x)).l1 (nowX (nowX x)).t2 (id (nowX (nowX x)).l1 ++ [b]) (nowX (nowX
  x)).hold (nowX (nowX x)).b (nowX (nowX x)).k (nowX (nowX x)).i (nowX (nowX x)).c (nowX (nowX x)).bor (nowX (nowX x)).h (nowX (nowX x)).n (nowX (nowX x)).v (nowX (nowX
  x)).u (nowX (nowX x)).g (nowX (nowX x)).j (nowX (nowX x)).read (nowX (nowX x)).t (nowX (nowX x)).ret (nowX (nowX x)).give, true)) False))) (cnd (decide (idxW (nowX x) =
  (↑((0 : Nat) + (1 : Nat) + (1 : Nat)) : Int))) (small (nowX (nowX x)).l2 ∧ ((List.length (id (nowX (nowX x)).l2) + List.length [b]) * (8 : Nat) ≤ (140737488355328 : Nat)
  ∧ List.length (id (nowX (nowX x)).l2) + List.length [b] ≤ (140737488355328 : Nat)) ∧ cnd (decide (idxW (nowX x) = (↑(0 : Nat) : Int))) (K (Wk.mk (nowX (nowX x)).line
  (nowX (nowX x)).op (nowX (nowX x)).pin (nowX (nowX x)).e (nowX (nowX x)).rack (nowX (nowX x)).t0 (id (nowX (nowX x)).l2 ++ [b]) (nowX (nowX x)).t1 (nowX (nowX x)).l1
  (nowX (nowX x)).t2 (nowX (nowX x)).l2 (nowX (nowX x)).hold (nowX (nowX x)).b (nowX (nowX x)).k (nowX (nowX x)).i (nowX (nowX x)).c (nowX (nowX x)).bor (nowX (nowX x)).h
  (nowX (nowX x)).n (nowX (nowX x)).v (nowX (nowX x)).u (nowX (nowX x)).g (nowX (nowX x)).j (nowX (nowX x)).read (nowX (nowX x)).t (nowX (nowX x)).ret (nowX (nowX x)).give,
  true)) (cnd (decide (idxW (nowX x) = (↑((0 : Nat) + (1 : Nat)) : Int))) (K (Wk.mk (nowX (nowX x)).line (nowX (nowX x)).op (nowX (nowX x)).pin (nowX (nowX x)).e (nowX
  (nowX x)).rack (nowX (nowX x)).t0 (nowX (nowX x)).l0 (nowX (nowX x)).t1 (id (nowX (nowX x)).l2 ++ [b]) (nowX (nowX x)).t2 (nowX (nowX x)).l2 (nowX (nowX x)).hold (nowX
  (nowX x)).b (nowX (nowX x)).k (nowX (nowX x)).i (nowX (nowX x)).c (nowX (nowX x)).bor (nowX (nowX x)).h (nowX (nowX x)).n (nowX (nowX x)).v (nowX (nowX x)).u (nowX (nowX
  x)).g (nowX (nowX x)).j (nowX (nowX x)).read (nowX (nowX x)).t (nowX (nowX x)).ret (nowX (nowX x)).give, true)) (cnd (decide (idxW (nowX x) = (↑((0 : Nat) + (1 : Nat) +
  (1 : Nat)) : Int))) (K (Wk.mk (nowX (nowX x)).line (nowX (nowX x)).op (nowX (nowX x)).pin (nowX (nowX x)).e (nowX (nowX x)).rack (nowX (nowX x)).t0 (nowX (nowX x)).l0
  (nowX (nowX x)).t1 (nowX (nowX x)).l1 (nowX (nowX x)).t2 (id (nowX (nowX x)).l2 ++ [b]) (nowX (nowX x)).hold (nowX (nowX x)).b (nowX (nowX x)).k (nowX (nowX x)).i (nowX
  (nowX x)).c (nowX (nowX x)).bor (nowX (nowX x)).h (nowX (nowX x)).n (nowX (nowX x)).v (nowX (nowX x)).u (nowX (nowX x)).g (nowX (nowX x)).j (nowX (nowX x)).read (nowX
  (nowX x)).t (nowX (nowX x)).ret (nowX (nowX x)).give, true)) False))) False)))) := by kernel_rfl

theorem vc_rbput (K : (Wk × Bool) → Prop) (c : Cfg) (x : Wk) (b : Int) : aexecF cnd cx Γ8 noSpec 200 Try.f29 (codeOf Try.f29) (aPut.enc (c, x, b)) [] (fun y R => rd cdWB
  (settleA R y) K) = ( Easy x ∧ cnd (decide ((↑(List.length (bagL (nowX x) (idxW x))) : Int) < c.a)) (((3 : Int) = (0 : Int) → False) ∧ cnd (decide (Int.tmod (IntKind.wrap
  IntKind.u64 ((nowX x).e + (1 : Int))) (3 : Int) = (0 : Int))) ((((0 : Nat) + List.length (nowX x).l0) * (8 : Nat) ≤ (140737488355328 : Nat) ∧ (0 : Nat) + List.length
  (nowX x).l0 ≤ (140737488355328 : Nat)) ∧ ((List.length ([] ++ (nowX x).l0) + List.length [b]) * (8 : Nat) ≤ (140737488355328 : Nat) ∧ List.length ([] ++ (nowX x).l0) +
  List.length [b] ≤ (140737488355328 : Nat)) ∧ K (Wk.mk (nowX x).line (nowX x).op (nowX x).pin (nowX x).e (nowX x).rack (nowX x).t0 ([] ++ (nowX x).l0 ++ [b]) (nowX x).t1
  (nowX x).l1 (nowX x).t2 (nowX x).l2 (nowX x).hold (nowX x).b (nowX x).k (nowX x).i (nowX x).c (nowX x).bor (nowX x).h (nowX x).n (nowX x).v (nowX x).u (nowX x).g (nowX
  x).j (nowX x).read (nowX x).t (nowX x).ret (nowX x).give, decide ((↑(List.length (bagL (nowX x) (idxW x))) : Int) < c.a))) (cnd (decide (Int.tmod (IntKind.wrap
  IntKind.u64 ((nowX x).e + (1 : Int))) (3 : Int) = (1 : Int))) ((((0 : Nat) + List.length (nowX x).l1) * (8 : Nat) ≤ (140737488355328 : Nat) ∧ (0 : Nat) + List.length
  (nowX x).l1 ≤ (140737488355328 : Nat)) ∧ ((List.length ([] ++ (nowX x).l1) + List.length [b]) * (8 : Nat) ≤ (140737488355328 : Nat) ∧ List.length ([] ++ (nowX x).l1) +
  List.length [b] ≤ (140737488355328 : Nat)) ∧ K (Wk.mk (nowX x).line (nowX x).op (nowX x).pin (nowX x).e (nowX x).rack (nowX x).t0 (nowX x).l0 (nowX x).t1 ([] ++ (nowX
  x).l1 ++ [b]) (nowX x).t2 (nowX x).l2 (nowX x).hold (nowX x).b (nowX x).k (nowX x).i (nowX x).c (nowX x).bor (nowX x).h (nowX x).n (nowX x).v (nowX x).u (nowX x).g (nowX
  x).j (nowX x).read (nowX x).t (nowX x).ret (nowX x).give, decide ((↑(List.length (bagL (nowX x) (idxW x))) : Int) < c.a))) (Int.tmod (IntKind.wrap IntKind.u64 ((nowX x).e
  + (1 : Int))) (3 : Int) = (2 : Int) ∧ (((0 : Nat) + List.length (nowX x).l2) * (8 : Nat) ≤ (140737488355328 : Nat) ∧ (0 : Nat) + List.length (nowX x).l2 ≤
  (140737488355328 : Nat)) ∧ ((List.length ([] ++ (nowX x).l2) + List.length [b]) * (8 : Nat) ≤ (140737488355328 : Nat) ∧ List.length ([] ++ (nowX x).l2) + List.length [b]
  ≤ (140737488355328 : Nat)) ∧ K (Wk.mk (nowX x).line (nowX x).op (nowX x).pin (nowX x).e (nowX x).rack (nowX x).t0 (nowX x).l0 (nowX x).t1 (nowX x).l1 (nowX x).t2 ([] ++
  (nowX x).l2 ++ [b]) (nowX x).hold (nowX x).b (nowX x).k (nowX x).i (nowX x).c (nowX x).bor (nowX x).h (nowX x).n (nowX x).v (nowX x).u (nowX x).g (nowX x).j (nowX x).read
  (nowX x).t (nowX x).ret (nowX x).give, decide ((↑(List.length (bagL (nowX x) (idxW x))) : Int) < c.a))))) (K (nowX x, decide ((↑(List.length (bagL (nowX x) (idxW x))) :
  Int) < c.a)))) := by kernel_rfl

end Go.Proofs.Ytggaecdhgbdilaa
