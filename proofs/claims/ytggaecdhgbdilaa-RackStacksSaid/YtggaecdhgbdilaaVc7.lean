/- What RackStacks computes, printed. No condition. -/
import Derived.Test.YtggaecdhgbdilaaStackSpec
set_option linter.unusedVariables false
set_option maxRecDepth 100000
namespace Go.Proofs.Ytggaecdhgbdilaa
open Go Go.Ax

theorem vc_stacks (K : AVal El → Prop) (c : Cfg) (l : List Int) : aexecF cnd cx Γ6 (specStacks c l) 200 Try.f5 (codeOf Try.f5) (aStacks.enc (c, l)) [] (fun y _ => K y) =
  ( True ∧ cnd (decide ((↑(List.length l) : Int) > (40 : Int))) (K (AVal.bool true)) ((∃ (s0 : Nat), s0 ≤ List.length l ∧ (EqA (AVal.int IntKind.i64 (0 : Int)) (AVal.int
  IntKind.i64 (↑(min s0 (Int.toNat c.r)) : Int)) ∧ EqA (AVal.int IntKind.i64 (0 : Int)) (AVal.int IntKind.i64 (↑s0 : Int)) ∧ True) ∧ (EqR (Res.cells (38 : Nat) [AVal.int
  IntKind.i64 c.w, AVal.int IntKind.i64 c.s, AVal.int IntKind.i64 c.b, AVal.int IntKind.i64 c.o, AVal.int IntKind.i64 c.e, AVal.int IntKind.i64 c.r, AVal.int IntKind.i64
  c.a, AVal.int IntKind.u64 c.l]) (Res.cells (38 : Nat) [AVal.int IntKind.i64 c.w, AVal.int IntKind.i64 c.s, AVal.int IntKind.i64 c.b, AVal.int IntKind.i64 c.o, AVal.int
  IntKind.i64 c.e, AVal.int IntKind.i64 c.r, AVal.int IntKind.i64 c.a, AVal.int IntKind.u64 c.l]) ∧ (True ∧ EqA (AVal.int IntKind.i64 (0 : Int)) (AVal.int IntKind.i64 (0 :
  Int)) ∧ EqA (AVal.int IntKind.i64 (0 : Int)) (AVal.int IntKind.i64 (0 : Int)) ∧ EqA (AVal.int IntKind.u64 (0 : Int)) (AVal.int IntKind.u64 (0 : Int)) ∧ EqA (AVal.int
  IntKind.u64 (0 : Int)) (AVal.int IntKind.u64 (0 : Int)) ∧ EqA (AVal.int IntKind.i64 (0 : Int)) (AVal.int IntKind.i64 (0 : Int)) ∧ EqA (AVal.bool false) (AVal.bool false)
  ∧ EqA (AVal.int IntKind.i64 (0 : Int)) (AVal.int IntKind.i64 (0 : Int)) ∧ EqA (AVal.int IntKind.i64 (0 : Int)) (AVal.int IntKind.i64 (0 : Int)) ∧ EqA (AVal.bool false)
  (AVal.bool false) ∧ EqA (AVal.int IntKind.u64 (0 : Int)) (AVal.int IntKind.u64 (0 : Int)) ∧ List.take (min s0 (Int.toNat c.r)) l = [] ∧ EqA (AVal.int IntKind.u64 (0 :
  Int)) (AVal.int IntKind.u64 (0 : Int)) ∧ ([] : List Int) = [] ∧ EqA (AVal.int IntKind.u64 (0 : Int)) (AVal.int IntKind.u64 (0 : Int)) ∧ ([] : List Int) = [] ∧ EqA
  (AVal.int IntKind.u64 (0 : Int)) (AVal.int IntKind.u64 (0 : Int)) ∧ ([] : List Int) = [] ∧ ([] : List Int) = [] ∧ EqA (AVal.int IntKind.i64 (0 : Int)) (AVal.int
  IntKind.i64 (0 : Int)) ∧ EqA (AVal.int IntKind.i64 (0 : Int)) (AVal.int IntKind.i64 (0 : Int)) ∧ EqA (AVal.int IntKind.i64 (0 : Int)) (AVal.int IntKind.i64 (0 : Int)) ∧
  EqA (AVal.int IntKind.i64 (0 : Int)) (AVal.int IntKind.i64 (0 : Int)) ∧ EqA (AVal.int IntKind.i64 (0 : Int)) (AVal.int IntKind.i64 (0 : Int)) ∧ EqA (AVal.int IntKind.u64
  (0 : Int)) (AVal.int IntKind.u64 (0 : Int)) ∧ EqA (AVal.int IntKind.u64 (0 : Int)) (AVal.int IntKind.u64 (0 : Int)) ∧ EqA (AVal.int IntKind.u64 (0 : Int)) (AVal.int
  IntKind.u64 (0 : Int)) ∧ EqA (AVal.int IntKind.u64 (0 : Int)) (AVal.int IntKind.u64 (0 : Int)) ∧ EqA (AVal.int IntKind.u64 (0 : Int)) (AVal.int IntKind.u64 (0 : Int)) ∧
  EqA (AVal.int IntKind.i64 (0 : Int)) (AVal.int IntKind.i64 (0 : Int)) ∧ ([] : List Int) = [] ∧ EqA (AVal.int IntKind.u64 (0 : Int)) (AVal.int IntKind.u64 (0 : Int)) ∧ EqA
  (AVal.int IntKind.i64 (0 : Int)) (AVal.int IntKind.i64 (0 : Int)) ∧ EqA (AVal.bool false) (AVal.bool false) ∧ True) ∧ True) ∧ True) ∧ ∀ (s : Nat), s ≤ List.length l → cnd
  (decide ((↑s : Int) < (↑(List.length l) : Int))) (((0 : Int) ≤ (↑s : Int) ∧ (↑s : Int) < (↑(List.length l) : Int)) ∧ Bear (Wk.mk (0 : Int) (OpD.mk (0 : Int) (0 : Int) (0
  : Int) (0 : Int) false (0 : Int) (0 : Int)) false (0 : Int) (List.take (min s (Int.toNat c.r)) l) (0 : Int) [] (0 : Int) [] (0 : Int) [] [] (0 : Int) (0 : Int) (0 : Int)
  (0 : Int) (0 : Int) (0 : Int) (0 : Int) (0 : Int) (0 : Int) (0 : Int) (0 : Int) [] (0 : Int) (0 : Int) false) ∧ ((0 : Int) ≤ (↑s : Int) ∧ (↑s : Int) < (↑(List.length l) :
  Int)) ∧ Bear (Wk.mk (0 : Int) (OpD.mk (0 : Int) (0 : Int) (0 : Int) (0 : Int) false (0 : Int) (0 : Int)) false (0 : Int) (List.take (min s (Int.toNat c.r)) l) (0 : Int)
  [] (0 : Int) [] (0 : Int) [] [] (0 : Int) (0 : Int) (0 : Int) (0 : Int) (0 : Int) (0 : Int) (0 : Int) (0 : Int) (0 : Int) (0 : Int) (0 : Int) [] (0 : Int) (0 : Int)
  false) ∧ cnd (!(putW (c, Wk.mk (0 : Int) (OpD.mk (0 : Int) (0 : Int) (0 : Int) (0 : Int) false (0 : Int) (0 : Int)) false (0 : Int) (List.take (min s (Int.toNat c.r)) l)
  (0 : Int) [] (0 : Int) [] (0 : Int) [] [] (0 : Int) (0 : Int) (0 : Int) (0 : Int) (0 : Int) (0 : Int) (0 : Int) (0 : Int) (0 : Int) (0 : Int) (0 : Int) [] (0 : Int) (0 :
  Int) false, List.getD l (Int.toNat (↑s : Int)) (0 : Int))).snd == decide ((↑s : Int) < c.r)) (K (AVal.bool false)) (cnd (putW (c, Wk.mk (0 : Int) (OpD.mk (0 : Int) (0 :
  Int) (0 : Int) (0 : Int) false (0 : Int) (0 : Int)) false (0 : Int) (List.take (min s (Int.toNat c.r)) l) (0 : Int) [] (0 : Int) [] (0 : Int) [] [] (0 : Int) (0 : Int) (0
  : Int) (0 : Int) (0 : Int) (0 : Int) (0 : Int) (0 : Int) (0 : Int) (0 : Int) (0 : Int) [] (0 : Int) (0 : Int) false, List.getD l (Int.toNat (↑s : Int)) (0 : Int))).snd (∃
  (s' : Nat), s' ≤ List.length l ∧ List.length l - s' < List.length l - s ∧ (EqA (AVal.int IntKind.i64 (IntKind.wrap IntKind.i64 ((↑(min s (Int.toNat c.r)) : Int) + (1 :
  Int)))) (AVal.int IntKind.i64 (↑(min s' (Int.toNat c.r)) : Int)) ∧ EqA (AVal.int IntKind.i64 (IntKind.wrap IntKind.i64 ((↑s : Int) + (1 : Int)))) (AVal.int IntKind.i64
  (↑s' : Int)) ∧ True) ∧ (EqR (Res.cells (38 : Nat) [AVal.int IntKind.i64 c.w, AVal.int IntKind.i64 c.s, AVal.int IntKind.i64 c.b, AVal.int IntKind.i64 c.o, AVal.int
  IntKind.i64 c.e, AVal.int IntKind.i64 c.r, AVal.int IntKind.i64 c.a, AVal.int IntKind.u64 c.l]) (Res.cells (38 : Nat) [AVal.int IntKind.i64 c.w, AVal.int IntKind.i64 c.s,
  AVal.int IntKind.i64 c.b, AVal.int IntKind.i64 c.o, AVal.int IntKind.i64 c.e, AVal.int IntKind.i64 c.r, AVal.int IntKind.i64 c.a, AVal.int IntKind.u64 c.l]) ∧ (True ∧ EqA
  (AVal.int IntKind.i64 (putW (c, Wk.mk (0 : Int) (OpD.mk (0 : Int) (0 : Int) (0 : Int) (0 : Int) false (0 : Int) (0 : Int)) false (0 : Int) (List.take (min s (Int.toNat
  c.r)) l) (0 : Int) [] (0 : Int) [] (0 : Int) [] [] (0 : Int) (0 : Int) (0 : Int) (0 : Int) (0 : Int) (0 : Int) (0 : Int) (0 : Int) (0 : Int) (0 : Int) (0 : Int) [] (0 :
  Int) (0 : Int) false, List.getD l (Int.toNat (↑s : Int)) (0 : Int))).fst.line) (AVal.int IntKind.i64 (0 : Int)) ∧ EqA (AVal.int IntKind.i64 (putW (c, Wk.mk (0 : Int)
  (OpD.mk (0 : Int) (0 : Int) (0 : Int) (0 : Int) false (0 : Int) (0 : Int)) false (0 : Int) (List.take (min s (Int.toNat c.r)) l) (0 : Int) [] (0 : Int) [] (0 : Int) [] []
  (0 : Int) (0 : Int) (0 : Int) (0 : Int) (0 : Int) (0 : Int) (0 : Int) (0 : Int) (0 : Int) (0 : Int) (0 : Int) [] (0 : Int) (0 : Int) false, List.getD l (Int.toNat (↑s :
  Int)) (0 : Int))).fst.op.k) (AVal.int IntKind.i64 (0 : Int)) ∧ EqA (AVal.int IntKind.u64 (putW (c, Wk.mk (0 : Int) (OpD.mk (0 : Int) (0 : Int) (0 : Int) (0 : Int) false
  (0 : Int) (0 : Int)) false (0 : Int) (List.take (min s (Int.toNat c.r)) l) (0 : Int) [] (0 : Int) [] (0 : Int) [] [] (0 : Int) (0 : Int) (0 : Int) (0 : Int) (0 : Int) (0
  : Int) (0 : Int) (0 : Int) (0 : Int) (0 : Int) (0 : Int) [] (0 : Int) (0 : Int) false, List.getD l (Int.toNat (↑s : Int)) (0 : Int))).fst.op.t) (AVal.int IntKind.u64 (0 :
  Int)) ∧ EqA (AVal.int IntKind.u64 (putW (c, Wk.mk (0 : Int) (OpD.mk (0 : Int) (0 : Int) (0 : Int) (0 : Int) false (0 : Int) (0 : Int)) false (0 : Int) (List.take (min s
  (Int.toNat c.r)) l) (0 : Int) [] (0 : Int) [] (0 : Int) [] [] (0 : Int) (0 : Int) (0 : Int) (0 : Int) (0 : Int) (0 : Int) (0 : Int) (0 : Int) (0 : Int) (0 : Int) (0 :
  Int) [] (0 : Int) (0 : Int) false, List.getD l (Int.toNat (↑s : Int)) (0 : Int))).fst.op.x) (AVal.int IntKind.u64 (0 : Int)) ∧ EqA (AVal.int IntKind.i64 (putW (c, Wk.mk
  (0 : Int) (OpD.mk (0 : Int) (0 : Int) (0 : Int) (0 : Int) false (0 : Int) (0 : Int)) false (0 : Int) (List.take (min s (Int.toNat c.r)) l) (0 : Int) [] (0 : Int) [] (0 :
  Int) [] [] (0 : Int) (0 : Int) (0 : Int) (0 : Int) (0 : Int) (0 : Int) (0 : Int) (0 : Int) (0 : Int) (0 : Int) (0 : Int) [] (0 : Int) (0 : Int) false, List.getD l
  (Int.toNat (↑s : Int)) (0 : Int))).fst.op.s) (AVal.int IntKind.i64 (0 : Int)) ∧ EqA (AVal.bool (putW (c, Wk.mk (0 : Int) (OpD.mk (0 : Int) (0 : Int) (0 : Int) (0 : Int)
  false (0 : Int) (0 : Int)) false (0 : Int) (List.take (min s (Int.toNat c.r)) l) (0 : Int) [] (0 : Int) [] (0 : Int) [] [] (0 : Int) (0 : Int) (0 : Int) (0 : Int) (0 :
  Int) (0 : Int) (0 : Int) (0 : Int) (0 : Int) (0 : Int) (0 : Int) [] (0 : Int) (0 : Int) false, List.getD l (Int.toNat (↑s : Int)) (0 : Int))).fst.op.u) (AVal.bool false)
  ∧ EqA (AVal.int IntKind.i64 (putW (c, Wk.mk (0 : Int) (OpD.mk (0 : Int) (0 : Int) (0 : Int) (0 : Int) false (0 : Int) (0 : Int)) false (0 : Int) (List.take (min s
  (Int.toNat c.r)) l) (0 : Int) [] (0 : Int) [] (0 : Int) [] [] (0 : Int) (0 : Int) (0 : Int) (0 : Int) (0 : Int) (0 : Int) (0 : Int) (0 : Int) (0 : Int) (0 : Int) (0 :
  Int) [] (0 : Int) (0 : Int) false, List.getD l (Int.toNat (↑s : Int)) (0 : Int))).fst.op.b) (AVal.int IntKind.i64 (0 : Int)) ∧ EqA (AVal.int IntKind.i64 (putW (c, Wk.mk
  (0 : Int) (OpD.mk (0 : Int) (0 : Int) (0 : Int) (0 : Int) false (0 : Int) (0 : Int)) false (0 : Int) (List.take (min s (Int.toNat c.r)) l) (0 : Int) [] (0 : Int) [] (0 :
  Int) [] [] (0 : Int) (0 : Int) (0 : Int) (0 : Int) (0 : Int) (0 : Int) (0 : Int) (0 : Int) (0 : Int) (0 : Int) (0 : Int) [] (0 : Int) (0 : Int) false, List.getD l
  (Int.toNat (↑s : Int)) (0 : Int))).fst.op.n) (AVal.int IntKind.i64 (0 : Int)) ∧ EqA (AVal.bool (putW (c, Wk.mk (0 : Int) (OpD.mk (0 : Int) (0 : Int) (0 : Int) (0 : Int)
  false (0 : Int) (0 : Int)) false (0 : Int) (List.take (min s (Int.toNat c.r)) l) (0 : Int) [] (0 : Int) [] (0 : Int) [] [] (0 : Int) (0 : Int) (0 : Int) (0 : Int) (0 :
  Int) (0 : Int) (0 : Int) (0 : Int) (0 : Int) (0 : Int) (0 : Int) [] (0 : Int) (0 : Int) false, List.getD l (Int.toNat (↑s : Int)) (0 : Int))).fst.pin) (AVal.bool false) ∧
  EqA (AVal.int IntKind.u64 (putW (c, Wk.mk (0 : Int) (OpD.mk (0 : Int) (0 : Int) (0 : Int) (0 : Int) false (0 : Int) (0 : Int)) false (0 : Int) (List.take (min s
  (Int.toNat c.r)) l) (0 : Int) [] (0 : Int) [] (0 : Int) [] [] (0 : Int) (0 : Int) (0 : Int) (0 : Int) (0 : Int) (0 : Int) (0 : Int) (0 : Int) (0 : Int) (0 : Int) (0 :
  Int) [] (0 : Int) (0 : Int) false, List.getD l (Int.toNat (↑s : Int)) (0 : Int))).fst.e) (AVal.int IntKind.u64 (0 : Int)) ∧ EqA (AVal.list (3 : Nat) (putW (c, Wk.mk (0 :
  Int) (OpD.mk (0 : Int) (0 : Int) (0 : Int) (0 : Int) false (0 : Int) (0 : Int)) false (0 : Int) (List.take (min s (Int.toNat c.r)) l) (0 : Int) [] (0 : Int) [] (0 : Int)
  [] [] (0 : Int) (0 : Int) (0 : Int) (0 : Int) (0 : Int) (0 : Int) (0 : Int) (0 : Int) (0 : Int) (0 : Int) (0 : Int) [] (0 : Int) (0 : Int) false, List.getD l (Int.toNat
  (↑s : Int)) (0 : Int))).fst.rack) (AVal.list (3 : Nat) (List.take (min s' (Int.toNat c.r)) l)) ∧ EqA (AVal.int IntKind.u64 (putW (c, Wk.mk (0 : Int) (OpD.mk (0 : Int) (0
  : Int) (0 : Int) (0 : Int) false (0 : Int) (0 : Int)) false (0 : Int) (List.take (min s (Int.toNat c.r)) l) (0 : Int) [] (0 : Int) [] (0 : Int) [] [] (0 : Int) (0 : Int)
  (0 : Int) (0 : Int) (0 : Int) (0 : Int) (0 : Int) (0 : Int) (0 : Int) (0 : Int) (0 : Int) [] (0 : Int) (0 : Int) false, List.getD l (Int.toNat (↑s : Int)) (0 :
  Int))).fst.t0) (AVal.int IntKind.u64 (0 : Int)) ∧ EqA (AVal.list (3 : Nat) (putW (c, Wk.mk (0 : Int) (OpD.mk (0 : Int) (0 : Int) (0 : Int) (0 : Int) false (0 : Int) (0 :
  Int)) false (0 : Int) (List.take (min s (Int.toNat c.r)) l) (0 : Int) [] (0 : Int) [] (0 : Int) [] [] (0 : Int) (0 : Int) (0 : Int) (0 : Int) (0 : Int) (0 : Int) (0 :
  Int) (0 : Int) (0 : Int) (0 : Int) (0 : Int) [] (0 : Int) (0 : Int) false, List.getD l (Int.toNat (↑s : Int)) (0 : Int))).fst.l0) (AVal.list (3 : Nat) []) ∧ EqA (AVal.int
  IntKind.u64 (putW (c, Wk.mk (0 : Int) (OpD.mk (0 : Int) (0 : Int) (0 : Int) (0 : Int) false (0 : Int) (0 : Int)) false (0 : Int) (List.take (min s (Int.toNat c.r)) l) (0
  : Int) [] (0 : Int) [] (0 : Int) [] [] (0 : Int) (0 : Int) (0 : Int) (0 : Int) (0 : Int) (0 : Int) (0 : Int) (0 : Int) (0 : Int) (0 : Int) (0 : Int) [] (0 : Int) (0 :
  Int) false, List.getD l (Int.toNat (↑s : Int)) (0 : Int))).fst.t1) (AVal.int IntKind.u64 (0 : Int)) ∧ EqA (AVal.list (3 : Nat) (putW (c, Wk.mk (0 : Int) (OpD.mk (0 : Int)
  (0 : Int) (0 : Int) (0 : Int) false (0 : Int) (0 : Int)) false (0 : Int) (List.take (min s (Int.toNat c.r)) l) (0 : Int) [] (0 : Int) [] (0 : Int) [] [] (0 : Int) (0 :
  Int) (0 : Int) (0 : Int) (0 : Int) (0 : Int) (0 : Int) (0 : Int) (0 : Int) (0 : Int) (0 : Int) [] (0 : Int) (0 : Int) false, List.getD l (Int.toNat (↑s : Int)) (0 :
  Int))).fst.l1) (AVal.list (3 : Nat) []) ∧ EqA (AVal.int IntKind.u64 (putW (c, Wk.mk (0 : Int) (OpD.mk (0 : Int) (0 : Int) (0 : Int) (0 : Int) false (0 : Int) (0 : Int))
  false (0 : Int) (List.take (min s (Int.toNat c.r)) l) (0 : Int) [] (0 : Int) [] (0 : Int) [] [] (0 : Int) (0 : Int) (0 : Int) (0 : Int) (0 : Int) (0 : Int) (0 : Int) (0 :
  Int) (0 : Int) (0 : Int) (0 : Int) [] (0 : Int) (0 : Int) false, List.getD l (Int.toNat (↑s : Int)) (0 : Int))).fst.t2) (AVal.int IntKind.u64 (0 : Int)) ∧ EqA (AVal.list
  (3 : Nat) (putW (c, Wk.mk (0 : Int) (OpD.mk (0 : Int) (0 : Int) (0 : Int) (0 : Int) false (0 : Int) (0 : Int)) false (0 : Int) (List.take (min s (Int.toNat c.r)) l) (0 :
  Int) [] (0 : Int) [] (0 : Int) [] [] (0 : Int) (0 : Int) (0 : Int) (0 : Int) (0 : Int) (0 : Int) (0 : Int) (0 : Int) (0 : Int) (0 : Int) (0 : Int) [] (0 : Int) (0 : Int)
  false, List.getD l (Int.toNat (↑s : Int)) (0 : Int))).fst.l2) (AVal.list (3 : Nat) []) ∧ EqA (AVal.list (3 : Nat) (putW (c, Wk.mk (0 : Int) (OpD.mk (0 : Int) (0 : Int) (0
  : Int) (0 : Int) false (0 : Int) (0 : Int)) false (0 : Int) (List.take (min s (Int.toNat c.r)) l) (0 : Int) [] (0 : Int) [] (0 : Int) [] [] (0 : Int) (0 : Int) (0 : Int)
  (0 : Int) (0 : Int) (0 : Int) (0 : Int) (0 : Int) (0 : Int) (0 : Int) (0 : Int) [] (0 : Int) (0 : Int) false, List.getD l (Int.toNat (↑s : Int)) (0 : Int))).fst.hold)
  (AVal.list (3 : Nat) []) ∧ EqA (AVal.int IntKind.i64 (putW (c, Wk.mk (0 : Int) (OpD.mk (0 : Int) (0 : Int) (0 : Int) (0 : Int) false (0 : Int) (0 : Int)) false (0 : Int)
  (List.take (min s (Int.toNat c.r)) l) (0 : Int) [] (0 : Int) [] (0 : Int) [] [] (0 : Int) (0 : Int) (0 : Int) (0 : Int) (0 : Int) (0 : Int) (0 : Int) (0 : Int) (0 : Int)
  (0 : Int) (0 : Int) [] (0 : Int) (0 : Int) false, List.getD l (Int.toNat (↑s : Int)) (0 : Int))).fst.b) (AVal.int IntKind.i64 (0 : Int)) ∧ EqA (AVal.int IntKind.i64 (putW
  (c, Wk.mk (0 : Int) (OpD.mk (0 : Int) (0 : Int) (0 : Int) (0 : Int) false (0 : Int) (0 : Int)) false (0 : Int) (List.take (min s (Int.toNat c.r)) l) (0 : Int) [] (0 :
  Int) [] (0 : Int) [] [] (0 : Int) (0 : Int) (0 : Int) (0 : Int) (0 : Int) (0 : Int) (0 : Int) (0 : Int) (0 : Int) (0 : Int) (0 : Int) [] (0 : Int) (0 : Int) false,
  List.getD l (Int.toNat (↑s : Int)) (0 : Int))).fst.k) (AVal.int IntKind.i64 (0 : Int)) ∧ EqA (AVal.int IntKind.i64 (putW (c, Wk.mk (0 : Int) (OpD.mk (0 : Int) (0 : Int)
  (0 : Int) (0 : Int) false (0 : Int) (0 : Int)) false (0 : Int) (List.take (min s (Int.toNat c.r)) l) (0 : Int) [] (0 : Int) [] (0 : Int) [] [] (0 : Int) (0 : Int) (0 :
  Int) (0 : Int) (0 : Int) (0 : Int) (0 : Int) (0 : Int) (0 : Int) (0 : Int) (0 : Int) [] (0 : Int) (0 : Int) false, List.getD l (Int.toNat (↑s : Int)) (0 : Int))).fst.i)
  (AVal.int IntKind.i64 (0 : Int)) ∧ EqA (AVal.int IntKind.i64 (putW (c, Wk.mk (0 : Int) (OpD.mk (0 : Int) (0 : Int) (0 : Int) (0 : Int) false (0 : Int) (0 : Int)) false (0
  : Int) (List.take (min s (Int.toNat c.r)) l) (0 : Int) [] (0 : Int) [] (0 : Int) [] [] (0 : Int) (0 : Int) (0 : Int) (0 : Int) (0 : Int) (0 : Int) (0 : Int) (0 : Int) (0
  : Int) (0 : Int) (0 : Int) [] (0 : Int) (0 : Int) false, List.getD l (Int.toNat (↑s : Int)) (0 : Int))).fst.c) (AVal.int IntKind.i64 (0 : Int)) ∧ EqA (AVal.int
  IntKind.i64 (putW (c, Wk.mk (0 : Int) (OpD.mk (0 : Int) (0 : Int) (0 : Int) (0 : Int) false (0 : Int) (0 : Int)) false (0 : Int) (List.take (min s (Int.toNat c.r)) l) (0
  : Int) [] (0 : Int) [] (0 : Int) [] [] (0 : Int) (0 : Int) (0 : Int) (0 : Int) (0 : Int) (0 : Int) (0 : Int) (0 : Int) (0 : Int) (0 : Int) (0 : Int) [] (0 : Int) (0 :
  Int) false, List.getD l (Int.toNat (↑s : Int)) (0 : Int))).fst.bor) (AVal.int IntKind.i64 (0 : Int)) ∧ EqA (AVal.int IntKind.u64 (putW (c, Wk.mk (0 : Int) (OpD.mk (0 :
  Int) (0 : Int) (0 : Int) (0 : Int) false (0 : Int) (0 : Int)) false (0 : Int) (List.take (min s (Int.toNat c.r)) l) (0 : Int) [] (0 : Int) [] (0 : Int) [] [] (0 : Int) (0
  : Int) (0 : Int) (0 : Int) (0 : Int) (0 : Int) (0 : Int) (0 : Int) (0 : Int) (0 : Int) (0 : Int) [] (0 : Int) (0 : Int) false, List.getD l (Int.toNat (↑s : Int)) (0 :
  Int))).fst.h) (AVal.int IntKind.u64 (0 : Int)) ∧ EqA (AVal.int IntKind.u64 (putW (c, Wk.mk (0 : Int) (OpD.mk (0 : Int) (0 : Int) (0 : Int) (0 : Int) false (0 : Int) (0 :
  Int)) false (0 : Int) (List.take (min s (Int.toNat c.r)) l) (0 : Int) [] (0 : Int) [] (0 : Int) [] [] (0 : Int) (0 : Int) (0 : Int) (0 : Int) (0 : Int) (0 : Int) (0 :
  Int) (0 : Int) (0 : Int) (0 : Int) (0 : Int) [] (0 : Int) (0 : Int) false, List.getD l (Int.toNat (↑s : Int)) (0 : Int))).fst.n) (AVal.int IntKind.u64 (0 : Int)) ∧ EqA
  (AVal.int IntKind.u64 (putW (c, Wk.mk (0 : Int) (OpD.mk (0 : Int) (0 : Int) (0 : Int) (0 : Int) false (0 : Int) (0 : Int)) false (0 : Int) (List.take (min s (Int.toNat
  c.r)) l) (0 : Int) [] (0 : Int) [] (0 : Int) [] [] (0 : Int) (0 : Int) (0 : Int) (0 : Int) (0 : Int) (0 : Int) (0 : Int) (0 : Int) (0 : Int) (0 : Int) (0 : Int) [] (0 :
  Int) (0 : Int) false, List.getD l (Int.toNat (↑s : Int)) (0 : Int))).fst.v) (AVal.int IntKind.u64 (0 : Int)) ∧ EqA (AVal.int IntKind.u64 (putW (c, Wk.mk (0 : Int) (OpD.mk
  (0 : Int) (0 : Int) (0 : Int) (0 : Int) false (0 : Int) (0 : Int)) false (0 : Int) (List.take (min s (Int.toNat c.r)) l) (0 : Int) [] (0 : Int) [] (0 : Int) [] [] (0 :
  Int) (0 : Int) (0 : Int) (0 : Int) (0 : Int) (0 : Int) (0 : Int) (0 : Int) (0 : Int) (0 : Int) (0 : Int) [] (0 : Int) (0 : Int) false, List.getD l (Int.toNat (↑s : Int))
  (0 : Int))).fst.u) (AVal.int IntKind.u64 (0 : Int)) ∧ EqA (AVal.int IntKind.u64 (putW (c, Wk.mk (0 : Int) (OpD.mk (0 : Int) (0 : Int) (0 : Int) (0 : Int) false (0 : Int)
  (0 : Int)) false (0 : Int) (List.take (min s (Int.toNat c.r)) l) (0 : Int) [] (0 : Int) [] (0 : Int) [] [] (0 : Int) (0 : Int) (0 : Int) (0 : Int) (0 : Int) (0 : Int) (0
  : Int) (0 : Int) (0 : Int) (0 : Int) (0 : Int) [] (0 : Int) (0 : Int) false, List.getD l (Int.toNat (↑s : Int)) (0 : Int))).fst.g) (AVal.int IntKind.u64 (0 : Int)) ∧ EqA
  (AVal.int IntKind.i64 (putW (c, Wk.mk (0 : Int) (OpD.mk (0 : Int) (0 : Int) (0 : Int) (0 : Int) false (0 : Int) (0 : Int)) false (0 : Int) (List.take (min s (Int.toNat
  c.r)) l) (0 : Int) [] (0 : Int) [] (0 : Int) [] [] (0 : Int) (0 : Int) (0 : Int) (0 : Int) (0 : Int) (0 : Int) (0 : Int) (0 : Int) (0 : Int) (0 : Int) (0 : Int) [] (0 :
  Int) (0 : Int) false, List.getD l (Int.toNat (↑s : Int)) (0 : Int))).fst.j) (AVal.int IntKind.i64 (0 : Int)) ∧ EqA (AVal.list (22 : Nat) (putW (c, Wk.mk (0 : Int) (OpD.mk
  (0 : Int) (0 : Int) (0 : Int) (0 : Int) false (0 : Int) (0 : Int)) false (0 : Int) (List.take (min s (Int.toNat c.r)) l) (0 : Int) [] (0 : Int) [] (0 : Int) [] [] (0 :
  Int) (0 : Int) (0 : Int) (0 : Int) (0 : Int) (0 : Int) (0 : Int) (0 : Int) (0 : Int) (0 : Int) (0 : Int) [] (0 : Int) (0 : Int) false, List.getD l (Int.toNat (↑s : Int))
  (0 : Int))).fst.read) (AVal.list (22 : Nat) []) ∧ EqA (AVal.int IntKind.u64 (putW (c, Wk.mk (0 : Int) (OpD.mk (0 : Int) (0 : Int) (0 : Int) (0 : Int) false (0 : Int) (0 :
  Int)) false (0 : Int) (List.take (min s (Int.toNat c.r)) l) (0 : Int) [] (0 : Int) [] (0 : Int) [] [] (0 : Int) (0 : Int) (0 : Int) (0 : Int) (0 : Int) (0 : Int) (0 :
  Int) (0 : Int) (0 : Int) (0 : Int) (0 : Int) [] (0 : Int) (0 : Int) false, List.getD l (Int.toNat (↑s : Int)) (0 : Int))).fst.t) (AVal.int IntKind.u64 (0 : Int)) ∧ EqA
  (AVal.int IntKind.i64 (putW (c, Wk.mk (0 : Int) (OpD.mk (0 : Int) (0 : Int) (0 : Int) (0 : Int) false (0 : Int) (0 : Int)) false (0 : Int) (List.take (min s (Int.toNat
  c.r)) l) (0 : Int) [] (0 : Int) [] (0 : Int) [] [] (0 : Int) (0 : Int) (0 : Int) (0 : Int) (0 : Int) (0 : Int) (0 : Int) (0 : Int) (0 : Int) (0 : Int) (0 : Int) [] (0 :
  Int) (0 : Int) false, List.getD l (Int.toNat (↑s : Int)) (0 : Int))).fst.ret) (AVal.int IntKind.i64 (0 : Int)) ∧ EqA (AVal.bool (putW (c, Wk.mk (0 : Int) (OpD.mk (0 :
  Int) (0 : Int) (0 : Int) (0 : Int) false (0 : Int) (0 : Int)) false (0 : Int) (List.take (min s (Int.toNat c.r)) l) (0 : Int) [] (0 : Int) [] (0 : Int) [] [] (0 : Int) (0
  : Int) (0 : Int) (0 : Int) (0 : Int) (0 : Int) (0 : Int) (0 : Int) (0 : Int) (0 : Int) (0 : Int) [] (0 : Int) (0 : Int) false, List.getD l (Int.toNat (↑s : Int)) (0 :
  Int))).fst.give) (AVal.bool false) ∧ True) ∧ True) ∧ True) (∃ (s' : Nat), s' ≤ List.length l ∧ List.length l - s' < List.length l - s ∧ (EqA (AVal.int IntKind.i64 (↑(min
  s (Int.toNat c.r)) : Int)) (AVal.int IntKind.i64 (↑(min s' (Int.toNat c.r)) : Int)) ∧ EqA (AVal.int IntKind.i64 (IntKind.wrap IntKind.i64 ((↑s : Int) + (1 : Int))))
  (AVal.int IntKind.i64 (↑s' : Int)) ∧ True) ∧ (EqR (Res.cells (38 : Nat) [AVal.int IntKind.i64 c.w, AVal.int IntKind.i64 c.s, AVal.int IntKind.i64 c.b, AVal.int
  IntKind.i64 c.o, AVal.int IntKind.i64 c.e, AVal.int IntKind.i64 c.r, AVal.int IntKind.i64 c.a, AVal.int IntKind.u64 c.l]) (Res.cells (38 : Nat) [AVal.int IntKind.i64 c.w,
  AVal.int IntKind.i64 c.s, AVal.int IntKind.i64 c.b, AVal.int IntKind.i64 c.o, AVal.int IntKind.i64 c.e, AVal.int IntKind.i64 c.r, AVal.int IntKind.i64 c.a, AVal.int
  IntKind.u64 c.l]) ∧ (True ∧ EqA (AVal.int IntKind.i64 (putW (c, Wk.mk (0 : Int) (OpD.mk (0 : Int) (0 : Int) (0 : Int) (0 : Int) false (0 : Int) (0 : Int)) false (0 : Int)
  (List.take (min s (Int.toNat c.r)) l) (0 : Int) [] (0 : Int) [] (0 : Int) [] [] (0 : Int) (0 : Int) (0 : Int) (0 : Int) (0 : Int) (0 : Int) (0 : Int) (0 : Int) (0 : Int)
  (0 : Int) (0 : Int) [] (0 : Int) (0 : Int) false, List.getD l (Int.toNat (↑s : Int)) (0 : Int))).fst.line) (AVal.int IntKind.i64 (0 : Int)) ∧ EqA (AVal.int IntKind.i64
  (putW (c, Wk.mk (0 : Int) (OpD.mk (0 : Int) (0 : Int) (0 : Int) (0 : Int) false (0 : Int) (0 : Int)) false (0 : Int) (List.take (min s (Int.toNat c.r)) l) (0 : Int) [] (0
  : Int) [] (0 : Int) [] [] (0 : Int) (0 : Int) (0 : Int) (0 : Int) (0 : Int) (0 : Int) (0 : Int) (0 : Int) (0 : Int) (0 : Int) (0 : Int) [] (0 : Int) (0 : Int) false,
  List.getD l (Int.toNat (↑s : Int)) (0 : Int))).fst.op.k) (AVal.int IntKind.i64 (0 : Int)) ∧ EqA (AVal.int IntKind.u64 (putW (c, Wk.mk (0 : Int) (OpD.mk (0 : Int) (0 :
  Int) (0 : Int) (0 : Int) false (0 : Int) (0 : Int)) false (0 : Int) (List.take (min s (Int.toNat c.r)) l) (0 : Int) [] (0 : Int) [] (0 : Int) [] [] (0 : Int) (0 : Int) (0
  : Int) (0 : Int) (0 : Int) (0 : Int) (0 : Int) (0 : Int) (0 : Int) (0 : Int) (0 : Int) [] (0 : Int) (0 : Int) false, List.getD l (Int.toNat (↑s : Int)) (0 :
  Int))).fst.op.t) (AVal.int IntKind.u64 (0 : Int)) ∧ EqA (AVal.int IntKind.u64 (putW (c, Wk.mk (0 : Int) (OpD.mk (0 : Int) (0 : Int) (0 : Int) (0 : Int) false (0 : Int) (0
  : Int)) false (0 : Int) (List.take (min s (Int.toNat c.r)) l) (0 : Int) [] (0 : Int) [] (0 : Int) [] [] (0 : Int) (0 : Int) (0 : Int) (0 : Int) (0 : Int) (0 : Int) (0 :
  Int) (0 : Int) (0 : Int) (0 : Int) (0 : Int) [] (0 : Int) (0 : Int) false, List.getD l (Int.toNat (↑s : Int)) (0 : Int))).fst.op.x) (AVal.int IntKind.u64 (0 : Int)) ∧ EqA
  (AVal.int IntKind.i64 (putW (c, Wk.mk (0 : Int) (OpD.mk (0 : Int) (0 : Int) (0 : Int) (0 : Int) false (0 : Int) (0 : Int)) false (0 : Int) (List.take (min s (Int.toNat
  c.r)) l) (0 : Int) [] (0 : Int) [] (0 : Int) [] [] (0 : Int) (0 : Int) (0 : Int) (0 : Int) (0 : Int) (0 : Int) (0 : Int) (0 : Int) (0 : Int) (0 : Int) (0 : Int) [] (0 :
  Int) (0 : Int) false, List.getD l (Int.toNat (↑s : Int)) (0 : Int))).fst.op.s) (AVal.int IntKind.i64 (0 : Int)) ∧ EqA (AVal.bool (putW (c, Wk.mk (0 : Int) (OpD.mk (0 :
  Int) (0 : Int) (0 : Int) (0 : Int) false (0 : Int) (0 : Int)) false (0 : Int) (List.take (min s (Int.toNat c.r)) l) (0 : Int) [] (0 : Int) [] (0 : Int) [] [] (0 : Int) (0
  : Int) (0 : Int) (0 : Int) (0 : Int) (0 : Int) (0 : Int) (0 : Int) (0 : Int) (0 : Int) (0 : Int) [] (0 : Int) (0 : Int) false, List.getD l (Int.toNat (↑s : Int)) (0 :
  Int))).fst.op.u) (AVal.bool false) ∧ EqA (AVal.int IntKind.i64 (putW (c, Wk.mk (0 : Int) (OpD.mk (0 : Int) (0 : Int) (0 : Int) (0 : Int) false (0 : Int) (0 : Int)) false
  (0 : Int) (List.take (min s (Int.toNat c.r)) l) (0 : Int) [] (0 : Int) [] (0 : Int) [] [] (0 : Int) (0 : Int) (0 : Int) (0 : Int) (0 : Int) (0 : Int) (0 : Int) (0 : Int)
  (0 : Int) (0 : Int) (0 : Int) [] (0 : Int) (0 : Int) false, List.getD l (Int.toNat (↑s : Int)) (0 : Int))).fst.op.b) (AVal.int IntKind.i64 (0 : Int)) ∧ EqA (AVal.int
  IntKind.i64 (putW (c, Wk.mk (0 : Int) (OpD.mk (0 : Int) (0 : Int) (0 : Int) (0 : Int) false (0 : Int) (0 : Int)) false (0 : Int) (List.take (min s (Int.toNat c.r)) l) (0
  : Int) [] (0 : Int) [] (0 : Int) [] [] (0 : Int) (0 : Int) (0 : Int) (0 : Int) (0 : Int) (0 : Int) (0 : Int) (0 : Int) (0 : Int) (0 : Int) (0 : Int) [] (0 : Int) (0 :
  Int) false, List.getD l (Int.toNat (↑s : Int)) (0 : Int))).fst.op.n) (AVal.int IntKind.i64 (0 : Int)) ∧ EqA (AVal.bool (putW (c, Wk.mk (0 : Int) (OpD.mk (0 : Int) (0 :
  Int) (0 : Int) (0 : Int) false (0 : Int) (0 : Int)) false (0 : Int) (List.take (min s (Int.toNat c.r)) l) (0 : Int) [] (0 : Int) [] (0 : Int) [] [] (0 : Int) (0 : Int) (0
  : Int) (0 : Int) (0 : Int) (0 : Int) (0 : Int) (0 : Int) (0 : Int) (0 : Int) (0 : Int) [] (0 : Int) (0 : Int) false, List.getD l (Int.toNat (↑s : Int)) (0 :
  Int))).fst.pin) (AVal.bool false) ∧ EqA (AVal.int IntKind.u64 (putW (c, Wk.mk (0 : Int) (OpD.mk (0 : Int) (0 : Int) (0 : Int) (0 : Int) false (0 : Int) (0 : Int)) false
  (0 : Int) (List.take (min s (Int.toNat c.r)) l) (0 : Int) [] (0 : Int) [] (0 : Int) [] [] (0 : Int) (0 : Int) (0 : Int) (0 : Int) (0 : Int) (0 : Int) (0 : Int) (0 : Int)
  (0 : Int) (0 : Int) (0 : Int) [] (0 : Int) (0 : Int) false, List.getD l (Int.toNat (↑s : Int)) (0 : Int))).fst.e) (AVal.int IntKind.u64 (0 : Int)) ∧ EqA (AVal.list (3 :
  Nat) (putW (c, Wk.mk (0 : Int) (OpD.mk (0 : Int) (0 : Int) (0 : Int) (0 : Int) false (0 : Int) (0 : Int)) false (0 : Int) (List.take (min s (Int.toNat c.r)) l) (0 : Int)
  [] (0 : Int) [] (0 : Int) [] [] (0 : Int) (0 : Int) (0 : Int) (0 : Int) (0 : Int) (0 : Int) (0 : Int) (0 : Int) (0 : Int) (0 : Int) (0 : Int) [] (0 : Int) (0 : Int)
  false, List.getD l (Int.toNat (↑s : Int)) (0 : Int))).fst.rack) (AVal.list (3 : Nat) (List.take (min s' (Int.toNat c.r)) l)) ∧ EqA (AVal.int IntKind.u64 (putW (c, Wk.mk
  (0 : Int) (OpD.mk (0 : Int) (0 : Int) (0 : Int) (0 : Int) false (0 : Int) (0 : Int)) false (0 : Int) (List.take (min s (Int.toNat c.r)) l) (0 : Int) [] (0 : Int) [] (0 :
  Int) [] [] (0 : Int) (0 : Int) (0 : Int) (0 : Int) (0 : Int) (0 : Int) (0 : Int) (0 : Int) (0 : Int) (0 : Int) (0 : Int) [] (0 : Int) (0 : Int) false, List.getD l
  (Int.toNat (↑s : Int)) (0 : Int))).fst.t0) (AVal.int IntKind.u64 (0 : Int)) ∧ EqA (AVal.list (3 : Nat) (putW (c, Wk.mk (0 : Int) (OpD.mk (0 : Int) (0 : Int) (0 : Int) (0
  : Int) false (0 : Int) (0 : Int)) false (0 : Int) (List.take (min s (Int.toNat c.r)) l) (0 : Int) [] (0 : Int) [] (0 : Int) [] [] (0 : Int) (0 : Int) (0 : Int) (0 : Int)
  (0 : Int) (0 : Int) (0 : Int) (0 : Int) (0 : Int) (0 : Int) (0 : Int) [] (0 : Int) (0 : Int) false, List.getD l (Int.toNat (↑s : Int)) (0 : Int))).fst.l0) (AVal.list (3 :
  Nat) []) ∧ EqA (AVal.int IntKind.u64 (putW (c, Wk.mk (0 : Int) (OpD.mk (0 : Int) (0 : Int) (0 : Int) (0 : Int) false (0 : Int) (0 : Int)) false (0 : Int) (List.take (min
  s (Int.toNat c.r)) l) (0 : Int) [] (0 : Int) [] (0 : Int) [] [] (0 : Int) (0 : Int) (0 : Int) (0 : Int) (0 : Int) (0 : Int) (0 : Int) (0 : Int) (0 : Int) (0 : Int) (0 :
  Int) [] (0 : Int) (0 : Int) false, List.getD l (Int.toNat (↑s : Int)) (0 : Int))).fst.t1) (AVal.int IntKind.u64 (0 : Int)) ∧ EqA (AVal.list (3 : Nat) (putW (c, Wk.mk (0 :
  Int) (OpD.mk (0 : Int) (0 : Int) (0 : Int) (0 : Int) false (0 : Int) (0 : Int)) false (0 : Int) (List.take (min s (Int.toNat c.r)) l) (0 : Int) [] (0 : Int) [] (0 : Int)
  [] [] (0 : Int) (0 : Int) (0 : Int) (0 : Int) (0 : Int) (0 : Int) (0 : Int) (0 : Int) (0 : Int) (0 : Int) (0 : Int) [] (0 : Int) (0 : Int) false, List.getD l (Int.toNat
  (↑s : Int)) (0 : Int))).fst.l1) (AVal.list (3 : Nat) []) ∧ EqA (AVal.int IntKind.u64 (putW (c, Wk.mk (0 : Int) (OpD.mk (0 : Int) (0 : Int) (0 : Int) (0 : Int) false (0 :
  Int) (0 : Int)) false (0 : Int) (List.take (min s (Int.toNat c.r)) l) (0 : Int) [] (0 : Int) [] (0 : Int) [] [] (0 : Int) (0 : Int) (0 : Int) (0 : Int) (0 : Int) (0 :
  Int) (0 : Int) (0 : Int) (0 : Int) (0 : Int) (0 : Int) [] (0 : Int) (0 : Int) false, List.getD l (Int.toNat (↑s : Int)) (0 : Int))).fst.t2) (AVal.int IntKind.u64 (0 :
  Int)) ∧ EqA (AVal.list (3 : Nat) (putW (c, Wk.mk (0 : Int) (OpD.mk (0 : Int) (0 : Int) (0 : Int) (0 : Int) false (0 : Int) (0 : Int)) false (0 : Int) (List.take (min s
  (Int.toNat c.r)) l) (0 : Int) [] (0 : Int) [] (0 : Int) [] [] (0 : Int) (0 : Int) (0 : Int) (0 : Int) (0 : Int) (0 : Int) (0 : Int) (0 : Int) (0 : Int) (0 : Int) (0 :
  Int) [] (0 : Int) (0 : Int) false, List.getD l (Int.toNat (↑s : Int)) (0 : Int))).fst.l2) (AVal.list (3 : Nat) []) ∧ EqA (AVal.list (3 : Nat) (putW (c, Wk.mk (0 : Int)
  (OpD.mk (0 : Int) (0 : Int) (0 : Int) (0 : Int) false (0 : Int) (0 : Int)) false (0 : Int) (List.take (min s (Int.toNat c.r)) l) (0 : Int) [] (0 : Int) [] (0 : Int) [] []
  (0 : Int) (0 : Int) (0 : Int) (0 : Int) (0 : Int) (0 : Int) (0 : Int) (0 : Int) (0 : Int) (0 : Int) (0 : Int) [] (0 : Int) (0 : Int) false, List.getD l (Int.toNat (↑s :
  Int)) (0 : Int))).fst.hold) (AVal.list (3 : Nat) []) ∧ EqA (AVal.int IntKind.i64 (putW (c, Wk.mk (0 : Int) (OpD.mk (0 : Int) (0 : Int) (0 : Int) (0 : Int) false (0 : Int)
  (0 : Int)) false (0 : Int) (List.take (min s (Int.toNat c.r)) l) (0 : Int) [] (0 : Int) [] (0 : Int) [] [] (0 : Int) (0 : Int) (0 : Int) (0 : Int) (0 : Int) (0 : Int) (0
  : Int) (0 : Int) (0 : Int) (0 : Int) (0 : Int) [] (0 : Int) (0 : Int) false, List.getD l (Int.toNat (↑s : Int)) (0 : Int))).fst.b) (AVal.int IntKind.i64 (0 : Int)) ∧ EqA
  (AVal.int IntKind.i64 (putW (c, Wk.mk (0 : Int) (OpD.mk (0 : Int) (0 : Int) (0 : Int) (0 : Int) false (0 : Int) (0 : Int)) false (0 : Int) (List.take (min s (Int.toNat
  c.r)) l) (0 : Int) [] (0 : Int) [] (0 : Int) [] [] (0 : Int) (0 : Int) (0 : Int) (0 : Int) (0 : Int) (0 : Int) (0 : Int) (0 : Int) (0 : Int) (0 : Int) (0 : Int) [] (0 :
  Int) (0 : Int) false, List.getD l (Int.toNat (↑s : Int)) (0 : Int))).fst.k) (AVal.int IntKind.i64 (0 : Int)) ∧ EqA (AVal.int IntKind.i64 (putW (c, Wk.mk (0 : Int) (OpD.mk
  (0 : Int) (0 : Int) (0 : Int) (0 : Int) false (0 : Int) (0 : Int)) false (0 : Int) (List.take (min s (Int.toNat c.r)) l) (0 : Int) [] (0 : Int) [] (0 : Int) [] [] (0 :
  Int) (0 : Int) (0 : Int) (0 : Int) (0 : Int) (0 : Int) (0 : Int) (0 : Int) (0 : Int) (0 : Int) (0 : Int) [] (0 : Int) (0 : Int) false, List.getD l (Int.toNat (↑s : Int))
  (0 : Int))).fst.i) (AVal.int IntKind.i64 (0 : Int)) ∧ EqA (AVal.int IntKind.i64 (putW (c, Wk.mk (0 : Int) (OpD.mk (0 : Int) (0 : Int) (0 : Int) (0 : Int) false (0 : Int)
  (0 : Int)) false (0 : Int) (List.take (min s (Int.toNat c.r)) l) (0 : Int) [] (0 : Int) [] (0 : Int) [] [] (0 : Int) (0 : Int) (0 : Int) (0 : Int) (0 : Int) (0 : Int) (0
  : Int) (0 : Int) (0 : Int) (0 : Int) (0 : Int) [] (0 : Int) (0 : Int) false, List.getD l (Int.toNat (↑s : Int)) (0 : Int))).fst.c) (AVal.int IntKind.i64 (0 : Int)) ∧ EqA
  (AVal.int IntKind.i64 (putW (c, Wk.mk (0 : Int) (OpD.mk (0 : Int) (0 : Int) (0 : Int) (0 : Int) false (0 : Int) (0 : Int)) false (0 : Int) (List.take (min s (Int.toNat
  c.r)) l) (0 : Int) [] (0 : Int) [] (0 : Int) [] [] (0 : Int) (0 : Int) (0 : Int) (0 : Int) (0 : Int) (0 : Int) (0 : Int) (0 : Int) (0 : Int) (0 : Int) (0 : Int) [] (0 :
  Int) (0 : Int) false, List.getD l (Int.toNat (↑s : Int)) (0 : Int))).fst.bor) (AVal.int IntKind.i64 (0 : Int)) ∧ EqA (AVal.int IntKind.u64 (putW (c, Wk.mk (0 : Int)
  (OpD.mk (0 : Int) (0 : Int) (0 : Int) (0 : Int) false (0 : Int) (0 : Int)) false (0 : Int) (List.take (min s (Int.toNat c.r)) l) (0 : Int) [] (0 : Int) [] (0 : Int) [] []
  (0 : Int) (0 : Int) (0 : Int) (0 : Int) (0 : Int) (0 : Int) (0 : Int) (0 : Int) (0 : Int) (0 : Int) (0 : Int) [] (0 : Int) (0 : Int) false, List.getD l (Int.toNat (↑s :
  Int)) (0 : Int))).fst.h) (AVal.int IntKind.u64 (0 : Int)) ∧ EqA (AVal.int IntKind.u64 (putW (c, Wk.mk (0 : Int) (OpD.mk (0 : Int) (0 : Int) (0 : Int) (0 : Int) false (0 :
  Int) (0 : Int)) false (0 : Int) (List.take (min s (Int.toNat c.r)) l) (0 : Int) [] (0 : Int) [] (0 : Int) [] [] (0 : Int) (0 : Int) (0 : Int) (0 : Int) (0 : Int) (0 :
  Int) (0 : Int) (0 : Int) (0 : Int) (0 : Int) (0 : Int) [] (0 : Int) (0 : Int) false, List.getD l (Int.toNat (↑s : Int)) (0 : Int))).fst.n) (AVal.int IntKind.u64 (0 :
  Int)) ∧ EqA (AVal.int IntKind.u64 (putW (c, Wk.mk (0 : Int) (OpD.mk (0 : Int) (0 : Int) (0 : Int) (0 : Int) false (0 : Int) (0 : Int)) false (0 : Int) (List.take (min s
  (Int.toNat c.r)) l) (0 : Int) [] (0 : Int) [] (0 : Int) [] [] (0 : Int) (0 : Int) (0 : Int) (0 : Int) (0 : Int) (0 : Int) (0 : Int) (0 : Int) (0 : Int) (0 : Int) (0 :
  Int) [] (0 : Int) (0 : Int) false, List.getD l (Int.toNat (↑s : Int)) (0 : Int))).fst.v) (AVal.int IntKind.u64 (0 : Int)) ∧ EqA (AVal.int IntKind.u64 (putW (c, Wk.mk (0 :
  Int) (OpD.mk (0 : Int) (0 : Int) (0 : Int) (0 : Int) false (0 : Int) (0 : Int)) false (0 : Int) (List.take (min s (Int.toNat c.r)) l) (0 : Int) [] (0 : Int) [] (0 : Int)
  [] [] (0 : Int) (0 : Int) (0 : Int) (0 : Int) (0 : Int) (0 : Int) (0 : Int) (0 : Int) (0 : Int) (0 : Int) (0 : Int) [] (0 : Int) (0 : Int) false, List.getD l (Int.toNat
  (↑s : Int)) (0 : Int))).fst.u) (AVal.int IntKind.u64 (0 : Int)) ∧ EqA (AVal.int IntKind.u64 (putW (c, Wk.mk (0 : Int) (OpD.mk (0 : Int) (0 : Int) (0 : Int) (0 : Int)
  false (0 : Int) (0 : Int)) false (0 : Int) (List.take (min s (Int.toNat c.r)) l) (0 : Int) [] (0 : Int) [] (0 : Int) [] [] (0 : Int) (0 : Int) (0 : Int) (0 : Int) (0 :
  Int) (0 : Int) (0 : Int) (0 : Int) (0 : Int) (0 : Int) (0 : Int) [] (0 : Int) (0 : Int) false, List.getD l (Int.toNat (↑s : Int)) (0 : Int))).fst.g) (AVal.int IntKind.u64
  (0 : Int)) ∧ EqA (AVal.int IntKind.i64 (putW (c, Wk.mk (0 : Int) (OpD.mk (0 : Int) (0 : Int) (0 : Int) (0 : Int) false (0 : Int) (0 : Int)) false (0 : Int) (List.take
  (min s (Int.toNat c.r)) l) (0 : Int) [] (0 : Int) [] (0 : Int) [] [] (0 : Int) (0 : Int) (0 : Int) (0 : Int) (0 : Int) (0 : Int) (0 : Int) (0 : Int) (0 : Int) (0 : Int)
  (0 : Int) [] (0 : Int) (0 : Int) false, List.getD l (Int.toNat (↑s : Int)) (0 : Int))).fst.j) (AVal.int IntKind.i64 (0 : Int)) ∧ EqA (AVal.list (22 : Nat) (putW (c, Wk.mk
  (0 : Int) (OpD.mk (0 : Int) (0 : Int) (0 : Int) (0 : Int) false (0 : Int) (0 : Int)) false (0 : Int) (List.take (min s (Int.toNat c.r)) l) (0 : Int) [] (0 : Int) [] (0 :
  Int) [] [] (0 : Int) (0 : Int) (0 : Int) (0 : Int) (0 : Int) (0 : Int) (0 : Int) (0 : Int) (0 : Int) (0 : Int) (0 : Int) [] (0 : Int) (0 : Int) false, List.getD l
  (Int.toNat (↑s : Int)) (0 : Int))).fst.read) (AVal.list (22 : Nat) []) ∧ EqA (AVal.int IntKind.u64 (putW (c, Wk.mk (0 : Int) (OpD.mk (0 : Int) (0 : Int) (0 : Int) (0 :
  Int) false (0 : Int) (0 : Int)) false (0 : Int) (List.take (min s (Int.toNat c.r)) l) (0 : Int) [] (0 : Int) [] (0 : Int) [] [] (0 : Int) (0 : Int) (0 : Int) (0 : Int) (0
  : Int) (0 : Int) (0 : Int) (0 : Int) (0 : Int) (0 : Int) (0 : Int) [] (0 : Int) (0 : Int) false, List.getD l (Int.toNat (↑s : Int)) (0 : Int))).fst.t) (AVal.int
  IntKind.u64 (0 : Int)) ∧ EqA (AVal.int IntKind.i64 (putW (c, Wk.mk (0 : Int) (OpD.mk (0 : Int) (0 : Int) (0 : Int) (0 : Int) false (0 : Int) (0 : Int)) false (0 : Int)
  (List.take (min s (Int.toNat c.r)) l) (0 : Int) [] (0 : Int) [] (0 : Int) [] [] (0 : Int) (0 : Int) (0 : Int) (0 : Int) (0 : Int) (0 : Int) (0 : Int) (0 : Int) (0 : Int)
  (0 : Int) (0 : Int) [] (0 : Int) (0 : Int) false, List.getD l (Int.toNat (↑s : Int)) (0 : Int))).fst.ret) (AVal.int IntKind.i64 (0 : Int)) ∧ EqA (AVal.bool (putW (c,
  Wk.mk (0 : Int) (OpD.mk (0 : Int) (0 : Int) (0 : Int) (0 : Int) false (0 : Int) (0 : Int)) false (0 : Int) (List.take (min s (Int.toNat c.r)) l) (0 : Int) [] (0 : Int) []
  (0 : Int) [] [] (0 : Int) (0 : Int) (0 : Int) (0 : Int) (0 : Int) (0 : Int) (0 : Int) (0 : Int) (0 : Int) (0 : Int) (0 : Int) [] (0 : Int) (0 : Int) false, List.getD l
  (Int.toNat (↑s : Int)) (0 : Int))).fst.give) (AVal.bool false) ∧ True) ∧ True) ∧ True))) ((∃ (s0 : Nat), s0 ≤ List.length l ∧ (EqA (AVal.int IntKind.i64 (IntKind.wrap
  IntKind.i64 ((↑(min s (Int.toNat c.r)) : Int) - (1 : Int)))) (AVal.int IntKind.i64 ((↑s0 : Int) - (1 : Int))) ∧ True) ∧ (EqR (Res.cells (38 : Nat) [AVal.int IntKind.i64
  c.w, AVal.int IntKind.i64 c.s, AVal.int IntKind.i64 c.b, AVal.int IntKind.i64 c.o, AVal.int IntKind.i64 c.e, AVal.int IntKind.i64 c.r, AVal.int IntKind.i64 c.a, AVal.int
  IntKind.u64 c.l]) (Res.cells (38 : Nat) [AVal.int IntKind.i64 c.w, AVal.int IntKind.i64 c.s, AVal.int IntKind.i64 c.b, AVal.int IntKind.i64 c.o, AVal.int IntKind.i64 c.e,
  AVal.int IntKind.i64 c.r, AVal.int IntKind.i64 c.a, AVal.int IntKind.u64 c.l]) ∧ (True ∧ EqA (AVal.int IntKind.i64 (0 : Int)) (AVal.int IntKind.i64 (0 : Int)) ∧ EqA
  (AVal.int IntKind.i64 (0 : Int)) (AVal.int IntKind.i64 (0 : Int)) ∧ EqA (AVal.int IntKind.u64 (0 : Int)) (AVal.int IntKind.u64 (0 : Int)) ∧ EqA (AVal.int IntKind.u64 (0 :
  Int)) (AVal.int IntKind.u64 (0 : Int)) ∧ EqA (AVal.int IntKind.i64 (0 : Int)) (AVal.int IntKind.i64 (0 : Int)) ∧ EqA (AVal.bool false) (AVal.bool false) ∧ EqA (AVal.int
  IntKind.i64 (0 : Int)) (AVal.int IntKind.i64 (0 : Int)) ∧ EqA (AVal.int IntKind.i64 (0 : Int)) (AVal.int IntKind.i64 (0 : Int)) ∧ EqA (AVal.bool false) (AVal.bool false)
  ∧ EqA (AVal.int IntKind.u64 (0 : Int)) (AVal.int IntKind.u64 (0 : Int)) ∧ EqA (AVal.list (3 : Nat) (List.take (min s (Int.toNat c.r)) l)) (AVal.list (3 : Nat) (List.take
  s0 l)) ∧ EqA (AVal.int IntKind.u64 (0 : Int)) (AVal.int IntKind.u64 (0 : Int)) ∧ EqA (AVal.list (3 : Nat) []) (AVal.list (3 : Nat) []) ∧ EqA (AVal.int IntKind.u64 (0 :
  Int)) (AVal.int IntKind.u64 (0 : Int)) ∧ EqA (AVal.list (3 : Nat) []) (AVal.list (3 : Nat) []) ∧ EqA (AVal.int IntKind.u64 (0 : Int)) (AVal.int IntKind.u64 (0 : Int)) ∧
  EqA (AVal.list (3 : Nat) []) (AVal.list (3 : Nat) []) ∧ EqA (AVal.list (3 : Nat) []) (AVal.list (3 : Nat) []) ∧ EqA (AVal.int IntKind.i64 (0 : Int)) (AVal.int IntKind.i64
  (0 : Int)) ∧ EqA (AVal.int IntKind.i64 (0 : Int)) (AVal.int IntKind.i64 (0 : Int)) ∧ EqA (AVal.int IntKind.i64 (0 : Int)) (AVal.int IntKind.i64 (0 : Int)) ∧ EqA (AVal.int
  IntKind.i64 (0 : Int)) (AVal.int IntKind.i64 (0 : Int)) ∧ EqA (AVal.int IntKind.i64 (0 : Int)) (AVal.int IntKind.i64 (0 : Int)) ∧ EqA (AVal.int IntKind.u64 (0 : Int))
  (AVal.int IntKind.u64 (0 : Int)) ∧ EqA (AVal.int IntKind.u64 (0 : Int)) (AVal.int IntKind.u64 (0 : Int)) ∧ EqA (AVal.int IntKind.u64 (0 : Int)) (AVal.int IntKind.u64 (0 :
  Int)) ∧ EqA (AVal.int IntKind.u64 (0 : Int)) (AVal.int IntKind.u64 (0 : Int)) ∧ EqA (AVal.int IntKind.u64 (0 : Int)) (AVal.int IntKind.u64 (0 : Int)) ∧ EqA (AVal.int
  IntKind.i64 (0 : Int)) (AVal.int IntKind.i64 (0 : Int)) ∧ EqA (AVal.list (22 : Nat) []) (AVal.list (22 : Nat) []) ∧ EqA (AVal.int IntKind.u64 (0 : Int)) (AVal.int
  IntKind.u64 (0 : Int)) ∧ EqA (AVal.int IntKind.i64 (0 : Int)) (AVal.int IntKind.i64 (0 : Int)) ∧ EqA (AVal.bool false) (AVal.bool false) ∧ True) ∧ True) ∧ True) ∧ ∀ (s :
  Nat), s ≤ List.length l → cnd (decide ((↑s : Int) - (1 : Int) ≥ (0 : Int))) (Bear (Wk.mk (0 : Int) (OpD.mk (0 : Int) (0 : Int) (0 : Int) (0 : Int) false (0 : Int) (0 :
  Int)) false (0 : Int) (List.take s l) (0 : Int) [] (0 : Int) [] (0 : Int) [] [] (0 : Int) (0 : Int) (0 : Int) (0 : Int) (0 : Int) (0 : Int) (0 : Int) (0 : Int) (0 : Int)
  (0 : Int) (0 : Int) [] (0 : Int) (0 : Int) false) ∧ ((0 : Int) ≤ (↑s : Int) - (1 : Int) ∧ (↑s : Int) - (1 : Int) < (↑(List.length l) : Int)) ∧ cnd ((takeW (Wk.mk (0 :
  Int) (OpD.mk (0 : Int) (0 : Int) (0 : Int) (0 : Int) false (0 : Int) (0 : Int)) false (0 : Int) (List.take s l) (0 : Int) [] (0 : Int) [] (0 : Int) [] [] (0 : Int) (0 :
  Int) (0 : Int) (0 : Int) (0 : Int) (0 : Int) (0 : Int) (0 : Int) (0 : Int) (0 : Int) (0 : Int) [] (0 : Int) (0 : Int) false)).snd != List.getD l (Int.toNat ((↑s : Int) -
  (1 : Int))) (0 : Int)) (K (AVal.bool false)) (∃ (s' : Nat), s' ≤ List.length l ∧ s' < s ∧ (EqA (AVal.int IntKind.i64 (IntKind.wrap IntKind.i64 ((↑s : Int) - (1 : Int) -
  (1 : Int)))) (AVal.int IntKind.i64 ((↑s' : Int) - (1 : Int))) ∧ True) ∧ (EqR (Res.cells (38 : Nat) [AVal.int IntKind.i64 c.w, AVal.int IntKind.i64 c.s, AVal.int
  IntKind.i64 c.b, AVal.int IntKind.i64 c.o, AVal.int IntKind.i64 c.e, AVal.int IntKind.i64 c.r, AVal.int IntKind.i64 c.a, AVal.int IntKind.u64 c.l]) (Res.cells (38 : Nat)
  [AVal.int IntKind.i64 c.w, AVal.int IntKind.i64 c.s, AVal.int IntKind.i64 c.b, AVal.int IntKind.i64 c.o, AVal.int IntKind.i64 c.e, AVal.int IntKind.i64 c.r, AVal.int
  IntKind.i64 c.a, AVal.int IntKind.u64 c.l]) ∧ (True ∧ EqA (AVal.int IntKind.i64 (takeW (Wk.mk (0 : Int) (OpD.mk (0 : Int) (0 : Int) (0 : Int) (0 : Int) false (0 : Int) (0
  : Int)) false (0 : Int) (List.take s l) (0 : Int) [] (0 : Int) [] (0 : Int) [] [] (0 : Int) (0 : Int) (0 : Int) (0 : Int) (0 : Int) (0 : Int) (0 : Int) (0 : Int) (0 :
  Int) (0 : Int) (0 : Int) [] (0 : Int) (0 : Int) false)).fst.line) (AVal.int IntKind.i64 (0 : Int)) ∧ EqA (AVal.int IntKind.i64 (takeW (Wk.mk (0 : Int) (OpD.mk (0 : Int)
  (0 : Int) (0 : Int) (0 : Int) false (0 : Int) (0 : Int)) false (0 : Int) (List.take s l) (0 : Int) [] (0 : Int) [] (0 : Int) [] [] (0 : Int) (0 : Int) (0 : Int) (0 : Int)
  (0 : Int) (0 : Int) (0 : Int) (0 : Int) (0 : Int) (0 : Int) (0 : Int) [] (0 : Int) (0 : Int) false)).fst.op.k) (AVal.int IntKind.i64 (0 : Int)) ∧ EqA (AVal.int
  IntKind.u64 (takeW (Wk.mk (0 : Int) (OpD.mk (0 : Int) (0 : Int) (0 : Int) (0 : Int) false (0 : Int) (0 : Int)) false (0 : Int) (List.take s l) (0 : Int) [] (0 : Int) []
  (0 : Int) [] [] (0 : Int) (0 : Int) (0 : Int) (0 : Int) (0 : Int) (0 : Int) (0 : Int) (0 : Int) (0 : Int) (0 : Int) (0 : Int) [] (0 : Int) (0 : Int) false)).fst.op.t)
  (AVal.int IntKind.u64 (0 : Int)) ∧ EqA (AVal.int IntKind.u64 (takeW (Wk.mk (0 : Int) (OpD.mk (0 : Int) (0 : Int) (0 : Int) (0 : Int) false (0 : Int) (0 : Int)) false (0 :
  Int) (List.take s l) (0 : Int) [] (0 : Int) [] (0 : Int) [] [] (0 : Int) (0 : Int) (0 : Int) (0 : Int) (0 : Int) (0 : Int) (0 : Int) (0 : Int) (0 : Int) (0 : Int) (0 :
  Int) [] (0 : Int) (0 : Int) false)).fst.op.x) (AVal.int IntKind.u64 (0 : Int)) ∧ EqA (AVal.int IntKind.i64 (takeW (Wk.mk (0 : Int) (OpD.mk (0 : Int) (0 : Int) (0 : Int)
  (0 : Int) false (0 : Int) (0 : Int)) false (0 : Int) (List.take s l) (0 : Int) [] (0 : Int) [] (0 : Int) [] [] (0 : Int) (0 : Int) (0 : Int) (0 : Int) (0 : Int) (0 : Int)
  (0 : Int) (0 : Int) (0 : Int) (0 : Int) (0 : Int) [] (0 : Int) (0 : Int) false)).fst.op.s) (AVal.int IntKind.i64 (0 : Int)) ∧ EqA (AVal.bool (takeW (Wk.mk (0 : Int)
  (OpD.mk (0 : Int) (0 : Int) (0 : Int) (0 : Int) false (0 : Int) (0 : Int)) false (0 : Int) (List.take s l) (0 : Int) [] (0 : Int) [] (0 : Int) [] [] (0 : Int) (0 : Int)
  (0 : Int) (0 : Int) (0 : Int) (0 : Int) (0 : Int) (0 : Int) (0 : Int) (0 : Int) (0 : Int) [] (0 : Int) (0 : Int) false)).fst.op.u) (AVal.bool false) ∧ EqA (AVal.int
  IntKind.i64 (takeW (Wk.mk (0 : Int) (OpD.mk (0 : Int) (0 : Int) (0 : Int) (0 : Int) false (0 : Int) (0 : Int)) false (0 : Int) (List.take s l) (0 : Int) [] (0 : Int) []
  (0 : Int) [] [] (0 : Int) (0 : Int) (0 : Int) (0 : Int) (0 : Int) (0 : Int) (0 : Int) (0 : Int) (0 : Int) (0 : Int) (0 : Int) [] (0 : Int) (0 : Int) false)).fst.op.b)
  (AVal.int IntKind.i64 (0 : Int)) ∧ EqA (AVal.int IntKind.i64 (takeW (Wk.mk (0 : Int) (OpD.mk (0 : Int) (0 : Int) (0 : Int) (0 : Int) false (0 : Int) (0 : Int)) false (0 :
  Int) (List.take s l) (0 : Int) [] (0 : Int) [] (0 : Int) [] [] (0 : Int) (0 : Int) (0 : Int) (0 : Int) (0 : Int) (0 : Int) (0 : Int) (0 : Int) (0 : Int) (0 : Int) (0 :
  Int) [] (0 : Int) (0 : Int) false)).fst.op.n) (AVal.int IntKind.i64 (0 : Int)) ∧ EqA (AVal.bool (takeW (Wk.mk (0 : Int) (OpD.mk (0 : Int) (0 : Int) (0 : Int) (0 : Int)
  false (0 : Int) (0 : Int)) false (0 : Int) (List.take s l) (0 : Int) [] (0 : Int) [] (0 : Int) [] [] (0 : Int) (0 : Int) (0 : Int) (0 : Int) (0 : Int) (0 : Int) (0 : Int)
  (0 : Int) (0 : Int) (0 : Int) (0 : Int) [] (0 : Int) (0 : Int) false)).fst.pin) (AVal.bool false) ∧ EqA (AVal.int IntKind.u64 (takeW (Wk.mk (0 : Int) (OpD.mk (0 : Int) (0
  : Int) (0 : Int) (0 : Int) false (0 : Int) (0 : Int)) false (0 : Int) (List.take s l) (0 : Int) [] (0 : Int) [] (0 : Int) [] [] (0 : Int) (0 : Int) (0 : Int) (0 : Int) (0
  : Int) (0 : Int) (0 : Int) (0 : Int) (0 : Int) (0 : Int) (0 : Int) [] (0 : Int) (0 : Int) false)).fst.e) (AVal.int IntKind.u64 (0 : Int)) ∧ EqA (AVal.list (3 : Nat)
  (takeW (Wk.mk (0 : Int) (OpD.mk (0 : Int) (0 : Int) (0 : Int) (0 : Int) false (0 : Int) (0 : Int)) false (0 : Int) (List.take s l) (0 : Int) [] (0 : Int) [] (0 : Int) []
  [] (0 : Int) (0 : Int) (0 : Int) (0 : Int) (0 : Int) (0 : Int) (0 : Int) (0 : Int) (0 : Int) (0 : Int) (0 : Int) [] (0 : Int) (0 : Int) false)).fst.rack) (AVal.list (3 :
  Nat) (List.take s' l)) ∧ EqA (AVal.int IntKind.u64 (takeW (Wk.mk (0 : Int) (OpD.mk (0 : Int) (0 : Int) (0 : Int) (0 : Int) false (0 : Int) (0 : Int)) false (0 : Int)
  (List.take s l) (0 : Int) [] (0 : Int) [] (0 : Int) [] [] (0 : Int) (0 : Int) (0 : Int) (0 : Int) (0 : Int) (0 : Int) (0 : Int) (0 : Int) (0 : Int) (0 : Int) (0 : Int) []
  (0 : Int) (0 : Int) false)).fst.t0) (AVal.int IntKind.u64 (0 : Int)) ∧ EqA (AVal.list (3 : Nat) (takeW (Wk.mk (0 : Int) (OpD.mk (0 : Int) (0 : Int) (0 : Int) (0 : Int)
  false (0 : Int) (0 : Int)) false (0 : Int) (List.take s l) (0 : Int) [] (0 : Int) [] (0 : Int) [] [] (0 : Int) (0 : Int) (0 : Int) (0 : Int) (0 : Int) (0 : Int) (0 : Int)
  (0 : Int) (0 : Int) (0 : Int) (0 : Int) [] (0 : Int) (0 : Int) false)).fst.l0) (AVal.list (3 : Nat) []) ∧ EqA (AVal.int IntKind.u64 (takeW (Wk.mk (0 : Int) (OpD.mk (0 :
  Int) (0 : Int) (0 : Int) (0 : Int) false (0 : Int) (0 : Int)) false (0 : Int) (List.take s l) (0 : Int) [] (0 : Int) [] (0 : Int) [] [] (0 : Int) (0 : Int) (0 : Int) (0 :
  Int) (0 : Int) (0 : Int) (0 : Int) (0 : Int) (0 : Int) (0 : Int) (0 : Int) [] (0 : Int) (0 : Int) false)).fst.t1) (AVal.int IntKind.u64 (0 : Int)) ∧ EqA (AVal.list (3 :
  Nat) (takeW (Wk.mk (0 : Int) (OpD.mk (0 : Int) (0 : Int) (0 : Int) (0 : Int) false (0 : Int) (0 : Int)) false (0 : Int) (List.take s l) (0 : Int) [] (0 : Int) [] (0 :
  Int) [] [] (0 : Int) (0 : Int) (0 : Int) (0 : Int) (0 : Int) (0 : Int) (0 : Int) (0 : Int) (0 : Int) (0 : Int) (0 : Int) [] (0 : Int) (0 : Int) false)).fst.l1) (AVal.list
  (3 : Nat) []) ∧ EqA (AVal.int IntKind.u64 (takeW (Wk.mk (0 : Int) (OpD.mk (0 : Int) (0 : Int) (0 : Int) (0 : Int) false (0 : Int) (0 : Int)) false (0 : Int) (List.take s
  l) (0 : Int) [] (0 : Int) [] (0 : Int) [] [] (0 : Int) (0 : Int) (0 : Int) (0 : Int) (0 : Int) (0 : Int) (0 : Int) (0 : Int) (0 : Int) (0 : Int) (0 : Int) [] (0 : Int) (0
  : Int) false)).fst.t2) (AVal.int IntKind.u64 (0 : Int)) ∧ EqA (AVal.list (3 : Nat) (takeW (Wk.mk (0 : Int) (OpD.mk (0 : Int) (0 : Int) (0 : Int) (0 : Int) false (0 : Int)
  (0 : Int)) false (0 : Int) (List.take s l) (0 : Int) [] (0 : Int) [] (0 : Int) [] [] (0 : Int) (0 : Int) (0 : Int) (0 : Int) (0 : Int) (0 : Int) (0 : Int) (0 : Int) (0 :
  Int) (0 : Int) (0 : Int) [] (0 : Int) (0 : Int) false)).fst.l2) (AVal.list (3 : Nat) []) ∧ EqA (AVal.list (3 : Nat) (takeW (Wk.mk (0 : Int) (OpD.mk (0 : Int) (0 : Int) (0
  : Int) (0 : Int) false (0 : Int) (0 : Int)) false (0 : Int) (List.take s l) (0 : Int) [] (0 : Int) [] (0 : Int) [] [] (0 : Int) (0 : Int) (0 : Int) (0 : Int) (0 : Int) (0
  : Int) (0 : Int) (0 : Int) (0 : Int) (0 : Int) (0 : Int) [] (0 : Int) (0 : Int) false)).fst.hold) (AVal.list (3 : Nat) []) ∧ EqA (AVal.int IntKind.i64 (takeW (Wk.mk (0 :
  Int) (OpD.mk (0 : Int) (0 : Int) (0 : Int) (0 : Int) false (0 : Int) (0 : Int)) false (0 : Int) (List.take s l) (0 : Int) [] (0 : Int) [] (0 : Int) [] [] (0 : Int) (0 :
  Int) (0 : Int) (0 : Int) (0 : Int) (0 : Int) (0 : Int) (0 : Int) (0 : Int) (0 : Int) (0 : Int) [] (0 : Int) (0 : Int) false)).fst.b) (AVal.int IntKind.i64 (0 : Int)) ∧
  EqA (AVal.int IntKind.i64 (takeW (Wk.mk (0 : Int) (OpD.mk (0 : Int) (0 : Int) (0 : Int) (0 : Int) false (0 : Int) (0 : Int)) false (0 : Int) (List.take s l) (0 : Int) []
  (0 : Int) [] (0 : Int) [] [] (0 : Int) (0 : Int) (0 : Int) (0 : Int) (0 : Int) (0 : Int) (0 : Int) (0 : Int) (0 : Int) (0 : Int) (0 : Int) [] (0 : Int) (0 : Int)
  false)).fst.k) (AVal.int IntKind.i64 (0 : Int)) ∧ EqA (AVal.int IntKind.i64 (takeW (Wk.mk (0 : Int) (OpD.mk (0 : Int) (0 : Int) (0 : Int) (0 : Int) false (0 : Int) (0 :
  Int)) false (0 : Int) (List.take s l) (0 : Int) [] (0 : Int) [] (0 : Int) [] [] (0 : Int) (0 : Int) (0 : Int) (0 : Int) (0 : Int) (0 : Int) (0 : Int) (0 : Int) (0 : Int)
  (0 : Int) (0 : Int) [] (0 : Int) (0 : Int) false)).fst.i) (AVal.int IntKind.i64 (0 : Int)) ∧ EqA (AVal.int IntKind.i64 (takeW (Wk.mk (0 : Int) (OpD.mk (0 : Int) (0 : Int)
  (0 : Int) (0 : Int) false (0 : Int) (0 : Int)) false (0 : Int) (List.take s l) (0 : Int) [] (0 : Int) [] (0 : Int) [] [] (0 : Int) (0 : Int) (0 : Int) (0 : Int) (0 : Int)
  (0 : Int) (0 : Int) (0 : Int) (0 : Int) (0 : Int) (0 : Int) [] (0 : Int) (0 : Int) false)).fst.c) (AVal.int IntKind.i64 (0 : Int)) ∧ EqA (AVal.int IntKind.i64 (takeW
  (Wk.mk (0 : Int) (OpD.mk (0 : Int) (0 : Int) (0 : Int) (0 : Int) false (0 : Int) (0 : Int)) false (0 : Int) (List.take s l) (0 : Int) [] (0 : Int) [] (0 : Int) [] [] (0 :
  Int) (0 : Int) (0 : Int) (0 : Int) (0 : Int) (0 : Int) (0 : Int) (0 : Int) (0 : Int) (0 : Int) (0 : Int) [] (0 : Int) (0 : Int) false)).fst.bor) (AVal.int IntKind.i64 (0
  : Int)) ∧ EqA (AVal.int IntKind.u64 (takeW (Wk.mk (0 : Int) (OpD.mk (0 : Int) (0 : Int) (0 : Int) (0 : Int) false (0 : Int) (0 : Int)) false (0 : Int) (List.take s l) (0
  : Int) [] (0 : Int) [] (0 : Int) [] [] (0 : Int) (0 : Int) (0 : Int) (0 : Int) (0 : Int) (0 : Int) (0 : Int) (0 : Int) (0 : Int) (0 : Int) (0 : Int) [] (0 : Int) (0 :
  Int) false)).fst.h) (AVal.int IntKind.u64 (0 : Int)) ∧ EqA (AVal.int IntKind.u64 (takeW (Wk.mk (0 : Int) (OpD.mk (0 : Int) (0 : Int) (0 : Int) (0 : Int) false (0 : Int)
  (0 : Int)) false (0 : Int) (List.take s l) (0 : Int) [] (0 : Int) [] (0 : Int) [] [] (0 : Int) (0 : Int) (0 : Int) (0 : Int) (0 : Int) (0 : Int) (0 : Int) (0 : Int) (0 :
  Int) (0 : Int) (0 : Int) [] (0 : Int) (0 : Int) false)).fst.n) (AVal.int IntKind.u64 (0 : Int)) ∧ EqA (AVal.int IntKind.u64 (takeW (Wk.mk (0 : Int) (OpD.mk (0 : Int) (0 :
  Int) (0 : Int) (0 : Int) false (0 : Int) (0 : Int)) false (0 : Int) (List.take s l) (0 : Int) [] (0 : Int) [] (0 : Int) [] [] (0 : Int) (0 : Int) (0 : Int) (0 : Int) (0 :
  Int) (0 : Int) (0 : Int) (0 : Int) (0 : Int) (0 : Int) (0 : Int) [] (0 : Int) (0 : Int) false)).fst.v) (AVal.int IntKind.u64 (0 : Int)) ∧ EqA (AVal.int IntKind.u64 (takeW
  (Wk.mk (0 : Int) (OpD.mk (0 : Int) (0 : Int) (0 : Int) (0 : Int) false (0 : Int) (0 : Int)) false (0 : Int) (List.take s l) (0 : Int) [] (0 : Int) [] (0 : Int) [] [] (0 :
  Int) (0 : Int) (0 : Int) (0 : Int) (0 : Int) (0 : Int) (0 : Int) (0 : Int) (0 : Int) (0 : Int) (0 : Int) [] (0 : Int) (0 : Int) false)).fst.u) (AVal.int IntKind.u64 (0 :
  Int)) ∧ EqA (AVal.int IntKind.u64 (takeW (Wk.mk (0 : Int) (OpD.mk (0 : Int) (0 : Int) (0 : Int) (0 : Int) false (0 : Int) (0 : Int)) false (0 : Int) (List.take s l) (0 :
  Int) [] (0 : Int) [] (0 : Int) [] [] (0 : Int) (0 : Int) (0 : Int) (0 : Int) (0 : Int) (0 : Int) (0 : Int) (0 : Int) (0 : Int) (0 : Int) (0 : Int) [] (0 : Int) (0 : Int)
  false)).fst.g) (AVal.int IntKind.u64 (0 : Int)) ∧ EqA (AVal.int IntKind.i64 (takeW (Wk.mk (0 : Int) (OpD.mk (0 : Int) (0 : Int) (0 : Int) (0 : Int) false (0 : Int) (0 :
  Int)) false (0 : Int) (List.take s l) (0 : Int) [] (0 : Int) [] (0 : Int) [] [] (0 : Int) (0 : Int) (0 : Int) (0 : Int) (0 : Int) (0 : Int) (0 : Int) (0 : Int) (0 : Int)
  (0 : Int) (0 : Int) [] (0 : Int) (0 : Int) false)).fst.j) (AVal.int IntKind.i64 (0 : Int)) ∧ EqA (AVal.list (22 : Nat) (takeW (Wk.mk (0 : Int) (OpD.mk (0 : Int) (0 : Int)
  (0 : Int) (0 : Int) false (0 : Int) (0 : Int)) false (0 : Int) (List.take s l) (0 : Int) [] (0 : Int) [] (0 : Int) [] [] (0 : Int) (0 : Int) (0 : Int) (0 : Int) (0 : Int)
  (0 : Int) (0 : Int) (0 : Int) (0 : Int) (0 : Int) (0 : Int) [] (0 : Int) (0 : Int) false)).fst.read) (AVal.list (22 : Nat) []) ∧ EqA (AVal.int IntKind.u64 (takeW (Wk.mk
  (0 : Int) (OpD.mk (0 : Int) (0 : Int) (0 : Int) (0 : Int) false (0 : Int) (0 : Int)) false (0 : Int) (List.take s l) (0 : Int) [] (0 : Int) [] (0 : Int) [] [] (0 : Int)
  (0 : Int) (0 : Int) (0 : Int) (0 : Int) (0 : Int) (0 : Int) (0 : Int) (0 : Int) (0 : Int) (0 : Int) [] (0 : Int) (0 : Int) false)).fst.t) (AVal.int IntKind.u64 (0 : Int))
  ∧ EqA (AVal.int IntKind.i64 (takeW (Wk.mk (0 : Int) (OpD.mk (0 : Int) (0 : Int) (0 : Int) (0 : Int) false (0 : Int) (0 : Int)) false (0 : Int) (List.take s l) (0 : Int)
  [] (0 : Int) [] (0 : Int) [] [] (0 : Int) (0 : Int) (0 : Int) (0 : Int) (0 : Int) (0 : Int) (0 : Int) (0 : Int) (0 : Int) (0 : Int) (0 : Int) [] (0 : Int) (0 : Int)
  false)).fst.ret) (AVal.int IntKind.i64 (0 : Int)) ∧ EqA (AVal.bool (takeW (Wk.mk (0 : Int) (OpD.mk (0 : Int) (0 : Int) (0 : Int) (0 : Int) false (0 : Int) (0 : Int))
  false (0 : Int) (List.take s l) (0 : Int) [] (0 : Int) [] (0 : Int) [] [] (0 : Int) (0 : Int) (0 : Int) (0 : Int) (0 : Int) (0 : Int) (0 : Int) (0 : Int) (0 : Int) (0 :
  Int) (0 : Int) [] (0 : Int) (0 : Int) false)).fst.give) (AVal.bool false) ∧ True) ∧ True) ∧ True)) (Bear (Wk.mk (0 : Int) (OpD.mk (0 : Int) (0 : Int) (0 : Int) (0 : Int)
  false (0 : Int) (0 : Int)) false (0 : Int) (List.take s l) (0 : Int) [] (0 : Int) [] (0 : Int) [] [] (0 : Int) (0 : Int) (0 : Int) (0 : Int) (0 : Int) (0 : Int) (0 : Int)
  (0 : Int) (0 : Int) (0 : Int) (0 : Int) [] (0 : Int) (0 : Int) false) ∧ cnd ((takeW (Wk.mk (0 : Int) (OpD.mk (0 : Int) (0 : Int) (0 : Int) (0 : Int) false (0 : Int) (0 :
  Int)) false (0 : Int) (List.take s l) (0 : Int) [] (0 : Int) [] (0 : Int) [] [] (0 : Int) (0 : Int) (0 : Int) (0 : Int) (0 : Int) (0 : Int) (0 : Int) (0 : Int) (0 : Int)
  (0 : Int) (0 : Int) [] (0 : Int) (0 : Int) false)).snd != (-1 : Int)) (K (AVal.bool false)) ((Bear (Wk.mk (0 : Int) (OpD.mk (0 : Int) (0 : Int) (0 : Int) (0 : Int) false
  (0 : Int) (0 : Int)) false (0 : Int) (List.take s l) (0 : Int) [] (0 : Int) [] (0 : Int) [] [] (0 : Int) (0 : Int) (0 : Int) (0 : Int) (0 : Int) (0 : Int) (0 : Int) (0 :
  Int) (0 : Int) (0 : Int) (0 : Int) [] (0 : Int) (0 : Int) false) ∧ small l) ∧ (∃ (s0 : Nat), s0 ≤ List.length l ∧ (EqA (AVal.int IntKind.i64 (0 : Int)) (AVal.int
  IntKind.i64 (↑s0 : Int)) ∧ True) ∧ (EqR (Res.cells (38 : Nat) [AVal.int IntKind.i64 c.w, AVal.int IntKind.i64 c.s, AVal.int IntKind.i64 c.b, AVal.int IntKind.i64 c.o,
  AVal.int IntKind.i64 c.e, AVal.int IntKind.i64 c.r, AVal.int IntKind.i64 c.a, AVal.int IntKind.u64 c.l]) (Res.cells (38 : Nat) [AVal.int IntKind.i64 c.w, AVal.int
  IntKind.i64 c.s, AVal.int IntKind.i64 c.b, AVal.int IntKind.i64 c.o, AVal.int IntKind.i64 c.e, AVal.int IntKind.i64 c.r, AVal.int IntKind.i64 c.a, AVal.int IntKind.u64
  c.l]) ∧ (True ∧ EqA (AVal.int IntKind.i64 (0 : Int)) (AVal.int IntKind.i64 (0 : Int)) ∧ EqA (AVal.int IntKind.i64 (0 : Int)) (AVal.int IntKind.i64 (0 : Int)) ∧ EqA
  (AVal.int IntKind.u64 (0 : Int)) (AVal.int IntKind.u64 (0 : Int)) ∧ EqA (AVal.int IntKind.u64 (0 : Int)) (AVal.int IntKind.u64 (0 : Int)) ∧ EqA (AVal.int IntKind.i64 (0 :
  Int)) (AVal.int IntKind.i64 (0 : Int)) ∧ EqA (AVal.bool false) (AVal.bool false) ∧ EqA (AVal.int IntKind.i64 (0 : Int)) (AVal.int IntKind.i64 (0 : Int)) ∧ EqA (AVal.int
  IntKind.i64 (0 : Int)) (AVal.int IntKind.i64 (0 : Int)) ∧ EqA (AVal.bool false) (AVal.bool false) ∧ EqA (AVal.int IntKind.u64 (0 : Int)) (AVal.int IntKind.u64 (0 : Int))
  ∧ EqA (AVal.list (3 : Nat) (List.take s l)) (AVal.list (3 : Nat) []) ∧ EqA (AVal.int IntKind.u64 (0 : Int)) (AVal.int IntKind.u64 (0 : Int)) ∧ EqA (AVal.list (3 : Nat)
  []) (AVal.list (3 : Nat) []) ∧ EqA (AVal.int IntKind.u64 (0 : Int)) (AVal.int IntKind.u64 (0 : Int)) ∧ EqA (AVal.list (3 : Nat) []) (AVal.list (3 : Nat) []) ∧ EqA
  (AVal.int IntKind.u64 (0 : Int)) (AVal.int IntKind.u64 (0 : Int)) ∧ EqA (AVal.list (3 : Nat) []) (AVal.list (3 : Nat) []) ∧ EqA (AVal.list (3 : Nat) ([] ++ l)) (AVal.list
  (3 : Nat) (List.drop s0 l)) ∧ EqA (AVal.int IntKind.i64 (0 : Int)) (AVal.int IntKind.i64 (0 : Int)) ∧ EqA (AVal.int IntKind.i64 (0 : Int)) (AVal.int IntKind.i64 (0 :
  Int)) ∧ EqA (AVal.int IntKind.i64 (0 : Int)) (AVal.int IntKind.i64 (0 : Int)) ∧ EqA (AVal.int IntKind.i64 (0 : Int)) (AVal.int IntKind.i64 (0 : Int)) ∧ EqA (AVal.int
  IntKind.i64 (0 : Int)) (AVal.int IntKind.i64 (0 : Int)) ∧ EqA (AVal.int IntKind.u64 (0 : Int)) (AVal.int IntKind.u64 (0 : Int)) ∧ EqA (AVal.int IntKind.u64 (0 : Int))
  (AVal.int IntKind.u64 (0 : Int)) ∧ EqA (AVal.int IntKind.u64 (0 : Int)) (AVal.int IntKind.u64 (0 : Int)) ∧ EqA (AVal.int IntKind.u64 (0 : Int)) (AVal.int IntKind.u64 (0 :
  Int)) ∧ EqA (AVal.int IntKind.u64 (0 : Int)) (AVal.int IntKind.u64 (0 : Int)) ∧ EqA (AVal.int IntKind.i64 (0 : Int)) (AVal.int IntKind.i64 (0 : Int)) ∧ EqA (AVal.list (22
  : Nat) []) (AVal.list (22 : Nat) []) ∧ EqA (AVal.int IntKind.u64 (0 : Int)) (AVal.int IntKind.u64 (0 : Int)) ∧ EqA (AVal.int IntKind.i64 (0 : Int)) (AVal.int IntKind.i64
  (0 : Int)) ∧ EqA (AVal.bool false) (AVal.bool false) ∧ True) ∧ (True ∧ EqA (AVal.int IntKind.i64 (takeW (Wk.mk (0 : Int) (OpD.mk (0 : Int) (0 : Int) (0 : Int) (0 : Int)
  false (0 : Int) (0 : Int)) false (0 : Int) (List.take s l) (0 : Int) [] (0 : Int) [] (0 : Int) [] [] (0 : Int) (0 : Int) (0 : Int) (0 : Int) (0 : Int) (0 : Int) (0 : Int)
  (0 : Int) (0 : Int) (0 : Int) (0 : Int) [] (0 : Int) (0 : Int) false)).fst.line) (AVal.int IntKind.i64 (takeW (Wk.mk (0 : Int) (OpD.mk (0 : Int) (0 : Int) (0 : Int) (0 :
  Int) false (0 : Int) (0 : Int)) false (0 : Int) (List.take s l) (0 : Int) [] (0 : Int) [] (0 : Int) [] [] (0 : Int) (0 : Int) (0 : Int) (0 : Int) (0 : Int) (0 : Int) (0 :
  Int) (0 : Int) (0 : Int) (0 : Int) (0 : Int) [] (0 : Int) (0 : Int) false)).fst.line) ∧ EqA (AVal.int IntKind.i64 (takeW (Wk.mk (0 : Int) (OpD.mk (0 : Int) (0 : Int) (0 :
  Int) (0 : Int) false (0 : Int) (0 : Int)) false (0 : Int) (List.take s l) (0 : Int) [] (0 : Int) [] (0 : Int) [] [] (0 : Int) (0 : Int) (0 : Int) (0 : Int) (0 : Int) (0 :
  Int) (0 : Int) (0 : Int) (0 : Int) (0 : Int) (0 : Int) [] (0 : Int) (0 : Int) false)).fst.op.k) (AVal.int IntKind.i64 (takeW (Wk.mk (0 : Int) (OpD.mk (0 : Int) (0 : Int)
  (0 : Int) (0 : Int) false (0 : Int) (0 : Int)) false (0 : Int) (List.take s l) (0 : Int) [] (0 : Int) [] (0 : Int) [] [] (0 : Int) (0 : Int) (0 : Int) (0 : Int) (0 : Int)
  (0 : Int) (0 : Int) (0 : Int) (0 : Int) (0 : Int) (0 : Int) [] (0 : Int) (0 : Int) false)).fst.op.k) ∧ EqA (AVal.int IntKind.u64 (takeW (Wk.mk (0 : Int) (OpD.mk (0 : Int)
  (0 : Int) (0 : Int) (0 : Int) false (0 : Int) (0 : Int)) false (0 : Int) (List.take s l) (0 : Int) [] (0 : Int) [] (0 : Int) [] [] (0 : Int) (0 : Int) (0 : Int) (0 : Int)
  (0 : Int) (0 : Int) (0 : Int) (0 : Int) (0 : Int) (0 : Int) (0 : Int) [] (0 : Int) (0 : Int) false)).fst.op.t) (AVal.int IntKind.u64 (takeW (Wk.mk (0 : Int) (OpD.mk (0 :
  Int) (0 : Int) (0 : Int) (0 : Int) false (0 : Int) (0 : Int)) false (0 : Int) (List.take s l) (0 : Int) [] (0 : Int) [] (0 : Int) [] [] (0 : Int) (0 : Int) (0 : Int) (0 :
  Int) (0 : Int) (0 : Int) (0 : Int) (0 : Int) (0 : Int) (0 : Int) (0 : Int) [] (0 : Int) (0 : Int) false)).fst.op.t) ∧ EqA (AVal.int IntKind.u64 (takeW (Wk.mk (0 : Int)
  (OpD.mk (0 : Int) (0 : Int) (0 : Int) (0 : Int) false (0 : Int) (0 : Int)) false (0 : Int) (List.take s l) (0 : Int) [] (0 : Int) [] (0 : Int) [] [] (0 : Int) (0 : Int)
  (0 : Int) (0 : Int) (0 : Int) (0 : Int) (0 : Int) (0 : Int) (0 : Int) (0 : Int) (0 : Int) [] (0 : Int) (0 : Int) false)).fst.op.x) (AVal.int IntKind.u64 (takeW (Wk.mk (0
  : Int) (OpD.mk (0 : Int) (0 : Int) (0 : Int) (0 : Int) false (0 : Int) (0 : Int)) false (0 : Int) (List.take s l) (0 : Int) [] (0 : Int) [] (0 : Int) [] [] (0 : Int) (0 :
  Int) (0 : Int) (0 : Int) (0 : Int) (0 : Int) (0 : Int) (0 : Int) (0 : Int) (0 : Int) (0 : Int) [] (0 : Int) (0 : Int) false)).fst.op.x) ∧ EqA (AVal.int IntKind.i64 (takeW
  (Wk.mk (0 : Int) (OpD.mk (0 : Int) (0 : Int) (0 : Int) (0 : Int) false (0 : Int) (0 : Int)) false (0 : Int) (List.take s l) (0 : Int) [] (0 : Int) [] (0 : Int) [] [] (0 :
  Int) (0 : Int) (0 : Int) (0 : Int) (0 : Int) (0 : Int) (0 : Int) (0 : Int) (0 : Int) (0 : Int) (0 : Int) [] (0 : Int) (0 : Int) false)).fst.op.s) (AVal.int IntKind.i64
  (takeW (Wk.mk (0 : Int) (OpD.mk (0 : Int) (0 : Int) (0 : Int) (0 : Int) false (0 : Int) (0 : Int)) false (0 : Int) (List.take s l) (0 : Int) [] (0 : Int) [] (0 : Int) []
  [] (0 : Int) (0 : Int) (0 : Int) (0 : Int) (0 : Int) (0 : Int) (0 : Int) (0 : Int) (0 : Int) (0 : Int) (0 : Int) [] (0 : Int) (0 : Int) false)).fst.op.s) ∧ EqA (AVal.bool
  (takeW (Wk.mk (0 : Int) (OpD.mk (0 : Int) (0 : Int) (0 : Int) (0 : Int) false (0 : Int) (0 : Int)) false (0 : Int) (List.take s l) (0 : Int) [] (0 : Int) [] (0 : Int) []
  [] (0 : Int) (0 : Int) (0 : Int) (0 : Int) (0 : Int) (0 : Int) (0 : Int) (0 : Int) (0 : Int) (0 : Int) (0 : Int) [] (0 : Int) (0 : Int) false)).fst.op.u) (AVal.bool
  (takeW (Wk.mk (0 : Int) (OpD.mk (0 : Int) (0 : Int) (0 : Int) (0 : Int) false (0 : Int) (0 : Int)) false (0 : Int) (List.take s l) (0 : Int) [] (0 : Int) [] (0 : Int) []
  [] (0 : Int) (0 : Int) (0 : Int) (0 : Int) (0 : Int) (0 : Int) (0 : Int) (0 : Int) (0 : Int) (0 : Int) (0 : Int) [] (0 : Int) (0 : Int) false)).fst.op.u) ∧ EqA (AVal.int
  IntKind.i64 (takeW (Wk.mk (0 : Int) (OpD.mk (0 : Int) (0 : Int) (0 : Int) (0 : Int) false (0 : Int) (0 : Int)) false (0 : Int) (List.take s l) (0 : Int) [] (0 : Int) []
  (0 : Int) [] [] (0 : Int) (0 : Int) (0 : Int) (0 : Int) (0 : Int) (0 : Int) (0 : Int) (0 : Int) (0 : Int) (0 : Int) (0 : Int) [] (0 : Int) (0 : Int) false)).fst.op.b)
  (AVal.int IntKind.i64 (takeW (Wk.mk (0 : Int) (OpD.mk (0 : Int) (0 : Int) (0 : Int) (0 : Int) false (0 : Int) (0 : Int)) false (0 : Int) (List.take s l) (0 : Int) [] (0 :
  Int) [] (0 : Int) [] [] (0 : Int) (0 : Int) (0 : Int) (0 : Int) (0 : Int) (0 : Int) (0 : Int) (0 : Int) (0 : Int) (0 : Int) (0 : Int) [] (0 : Int) (0 : Int)
  false)).fst.op.b) ∧ EqA (AVal.int IntKind.i64 (takeW (Wk.mk (0 : Int) (OpD.mk (0 : Int) (0 : Int) (0 : Int) (0 : Int) false (0 : Int) (0 : Int)) false (0 : Int)
  (List.take s l) (0 : Int) [] (0 : Int) [] (0 : Int) [] [] (0 : Int) (0 : Int) (0 : Int) (0 : Int) (0 : Int) (0 : Int) (0 : Int) (0 : Int) (0 : Int) (0 : Int) (0 : Int) []
  (0 : Int) (0 : Int) false)).fst.op.n) (AVal.int IntKind.i64 (takeW (Wk.mk (0 : Int) (OpD.mk (0 : Int) (0 : Int) (0 : Int) (0 : Int) false (0 : Int) (0 : Int)) false (0 :
  Int) (List.take s l) (0 : Int) [] (0 : Int) [] (0 : Int) [] [] (0 : Int) (0 : Int) (0 : Int) (0 : Int) (0 : Int) (0 : Int) (0 : Int) (0 : Int) (0 : Int) (0 : Int) (0 :
  Int) [] (0 : Int) (0 : Int) false)).fst.op.n) ∧ EqA (AVal.bool (takeW (Wk.mk (0 : Int) (OpD.mk (0 : Int) (0 : Int) (0 : Int) (0 : Int) false (0 : Int) (0 : Int)) false (0
  : Int) (List.take s l) (0 : Int) [] (0 : Int) [] (0 : Int) [] [] (0 : Int) (0 : Int) (0 : Int) (0 : Int) (0 : Int) (0 : Int) (0 : Int) (0 : Int) (0 : Int) (0 : Int) (0 :
  Int) [] (0 : Int) (0 : Int) false)).fst.pin) (AVal.bool (takeW (Wk.mk (0 : Int) (OpD.mk (0 : Int) (0 : Int) (0 : Int) (0 : Int) false (0 : Int) (0 : Int)) false (0 : Int)
  (List.take s l) (0 : Int) [] (0 : Int) [] (0 : Int) [] [] (0 : Int) (0 : Int) (0 : Int) (0 : Int) (0 : Int) (0 : Int) (0 : Int) (0 : Int) (0 : Int) (0 : Int) (0 : Int) []
  (0 : Int) (0 : Int) false)).fst.pin) ∧ EqA (AVal.int IntKind.u64 (takeW (Wk.mk (0 : Int) (OpD.mk (0 : Int) (0 : Int) (0 : Int) (0 : Int) false (0 : Int) (0 : Int)) false
  (0 : Int) (List.take s l) (0 : Int) [] (0 : Int) [] (0 : Int) [] [] (0 : Int) (0 : Int) (0 : Int) (0 : Int) (0 : Int) (0 : Int) (0 : Int) (0 : Int) (0 : Int) (0 : Int) (0
  : Int) [] (0 : Int) (0 : Int) false)).fst.e) (AVal.int IntKind.u64 (takeW (Wk.mk (0 : Int) (OpD.mk (0 : Int) (0 : Int) (0 : Int) (0 : Int) false (0 : Int) (0 : Int))
  false (0 : Int) (List.take s l) (0 : Int) [] (0 : Int) [] (0 : Int) [] [] (0 : Int) (0 : Int) (0 : Int) (0 : Int) (0 : Int) (0 : Int) (0 : Int) (0 : Int) (0 : Int) (0 :
  Int) (0 : Int) [] (0 : Int) (0 : Int) false)).fst.e) ∧ EqA (AVal.list (3 : Nat) (takeW (Wk.mk (0 : Int) (OpD.mk (0 : Int) (0 : Int) (0 : Int) (0 : Int) false (0 : Int) (0
  : Int)) false (0 : Int) (List.take s l) (0 : Int) [] (0 : Int) [] (0 : Int) [] [] (0 : Int) (0 : Int) (0 : Int) (0 : Int) (0 : Int) (0 : Int) (0 : Int) (0 : Int) (0 :
  Int) (0 : Int) (0 : Int) [] (0 : Int) (0 : Int) false)).fst.rack) (AVal.list (3 : Nat) (takeW (Wk.mk (0 : Int) (OpD.mk (0 : Int) (0 : Int) (0 : Int) (0 : Int) false (0 :
  Int) (0 : Int)) false (0 : Int) (List.take s l) (0 : Int) [] (0 : Int) [] (0 : Int) [] [] (0 : Int) (0 : Int) (0 : Int) (0 : Int) (0 : Int) (0 : Int) (0 : Int) (0 : Int)
  (0 : Int) (0 : Int) (0 : Int) [] (0 : Int) (0 : Int) false)).fst.rack) ∧ EqA (AVal.int IntKind.u64 (takeW (Wk.mk (0 : Int) (OpD.mk (0 : Int) (0 : Int) (0 : Int) (0 : Int)
  false (0 : Int) (0 : Int)) false (0 : Int) (List.take s l) (0 : Int) [] (0 : Int) [] (0 : Int) [] [] (0 : Int) (0 : Int) (0 : Int) (0 : Int) (0 : Int) (0 : Int) (0 : Int)
  (0 : Int) (0 : Int) (0 : Int) (0 : Int) [] (0 : Int) (0 : Int) false)).fst.t0) (AVal.int IntKind.u64 (takeW (Wk.mk (0 : Int) (OpD.mk (0 : Int) (0 : Int) (0 : Int) (0 :
  Int) false (0 : Int) (0 : Int)) false (0 : Int) (List.take s l) (0 : Int) [] (0 : Int) [] (0 : Int) [] [] (0 : Int) (0 : Int) (0 : Int) (0 : Int) (0 : Int) (0 : Int) (0 :
  Int) (0 : Int) (0 : Int) (0 : Int) (0 : Int) [] (0 : Int) (0 : Int) false)).fst.t0) ∧ EqA (AVal.list (3 : Nat) (takeW (Wk.mk (0 : Int) (OpD.mk (0 : Int) (0 : Int) (0 :
  Int) (0 : Int) false (0 : Int) (0 : Int)) false (0 : Int) (List.take s l) (0 : Int) [] (0 : Int) [] (0 : Int) [] [] (0 : Int) (0 : Int) (0 : Int) (0 : Int) (0 : Int) (0 :
  Int) (0 : Int) (0 : Int) (0 : Int) (0 : Int) (0 : Int) [] (0 : Int) (0 : Int) false)).fst.l0) (AVal.list (3 : Nat) (takeW (Wk.mk (0 : Int) (OpD.mk (0 : Int) (0 : Int) (0
  : Int) (0 : Int) false (0 : Int) (0 : Int)) false (0 : Int) (List.take s l) (0 : Int) [] (0 : Int) [] (0 : Int) [] [] (0 : Int) (0 : Int) (0 : Int) (0 : Int) (0 : Int) (0
  : Int) (0 : Int) (0 : Int) (0 : Int) (0 : Int) (0 : Int) [] (0 : Int) (0 : Int) false)).fst.l0) ∧ EqA (AVal.int IntKind.u64 (takeW (Wk.mk (0 : Int) (OpD.mk (0 : Int) (0 :
  Int) (0 : Int) (0 : Int) false (0 : Int) (0 : Int)) false (0 : Int) (List.take s l) (0 : Int) [] (0 : Int) [] (0 : Int) [] [] (0 : Int) (0 : Int) (0 : Int) (0 : Int) (0 :
  Int) (0 : Int) (0 : Int) (0 : Int) (0 : Int) (0 : Int) (0 : Int) [] (0 : Int) (0 : Int) false)).fst.t1) (AVal.int IntKind.u64 (takeW (Wk.mk (0 : Int) (OpD.mk (0 : Int) (0
  : Int) (0 : Int) (0 : Int) false (0 : Int) (0 : Int)) false (0 : Int) (List.take s l) (0 : Int) [] (0 : Int) [] (0 : Int) [] [] (0 : Int) (0 : Int) (0 : Int) (0 : Int) (0
  : Int) (0 : Int) (0 : Int) (0 : Int) (0 : Int) (0 : Int) (0 : Int) [] (0 : Int) (0 : Int) false)).fst.t1) ∧ EqA (AVal.list (3 : Nat) (takeW (Wk.mk (0 : Int) (OpD.mk (0 :
  Int) (0 : Int) (0 : Int) (0 : Int) false (0 : Int) (0 : Int)) false (0 : Int) (List.take s l) (0 : Int) [] (0 : Int) [] (0 : Int) [] [] (0 : Int) (0 : Int) (0 : Int) (0 :
  Int) (0 : Int) (0 : Int) (0 : Int) (0 : Int) (0 : Int) (0 : Int) (0 : Int) [] (0 : Int) (0 : Int) false)).fst.l1) (AVal.list (3 : Nat) (takeW (Wk.mk (0 : Int) (OpD.mk (0
  : Int) (0 : Int) (0 : Int) (0 : Int) false (0 : Int) (0 : Int)) false (0 : Int) (List.take s l) (0 : Int) [] (0 : Int) [] (0 : Int) [] [] (0 : Int) (0 : Int) (0 : Int) (0
  : Int) (0 : Int) (0 : Int) (0 : Int) (0 : Int) (0 : Int) (0 : Int) (0 : Int) [] (0 : Int) (0 : Int) false)).fst.l1) ∧ EqA (AVal.int IntKind.u64 (takeW (Wk.mk (0 : Int)
  (OpD.mk (0 : Int) (0 : Int) (0 : Int) (0 : Int) false (0 : Int) (0 : Int)) false (0 : Int) (List.take s l) (0 : Int) [] (0 : Int) [] (0 : Int) [] [] (0 : Int) (0 : Int)
  (0 : Int) (0 : Int) (0 : Int) (0 : Int) (0 : Int) (0 : Int) (0 : Int) (0 : Int) (0 : Int) [] (0 : Int) (0 : Int) false)).fst.t2) (AVal.int IntKind.u64 (takeW (Wk.mk (0 :
  Int) (OpD.mk (0 : Int) (0 : Int) (0 : Int) (0 : Int) false (0 : Int) (0 : Int)) false (0 : Int) (List.take s l) (0 : Int) [] (0 : Int) [] (0 : Int) [] [] (0 : Int) (0 :
  Int) (0 : Int) (0 : Int) (0 : Int) (0 : Int) (0 : Int) (0 : Int) (0 : Int) (0 : Int) (0 : Int) [] (0 : Int) (0 : Int) false)).fst.t2) ∧ EqA (AVal.list (3 : Nat) (takeW
  (Wk.mk (0 : Int) (OpD.mk (0 : Int) (0 : Int) (0 : Int) (0 : Int) false (0 : Int) (0 : Int)) false (0 : Int) (List.take s l) (0 : Int) [] (0 : Int) [] (0 : Int) [] [] (0 :
  Int) (0 : Int) (0 : Int) (0 : Int) (0 : Int) (0 : Int) (0 : Int) (0 : Int) (0 : Int) (0 : Int) (0 : Int) [] (0 : Int) (0 : Int) false)).fst.l2) (AVal.list (3 : Nat)
  (takeW (Wk.mk (0 : Int) (OpD.mk (0 : Int) (0 : Int) (0 : Int) (0 : Int) false (0 : Int) (0 : Int)) false (0 : Int) (List.take s l) (0 : Int) [] (0 : Int) [] (0 : Int) []
  [] (0 : Int) (0 : Int) (0 : Int) (0 : Int) (0 : Int) (0 : Int) (0 : Int) (0 : Int) (0 : Int) (0 : Int) (0 : Int) [] (0 : Int) (0 : Int) false)).fst.l2) ∧ EqA (AVal.list
  (3 : Nat) (takeW (Wk.mk (0 : Int) (OpD.mk (0 : Int) (0 : Int) (0 : Int) (0 : Int) false (0 : Int) (0 : Int)) false (0 : Int) (List.take s l) (0 : Int) [] (0 : Int) [] (0
  : Int) [] [] (0 : Int) (0 : Int) (0 : Int) (0 : Int) (0 : Int) (0 : Int) (0 : Int) (0 : Int) (0 : Int) (0 : Int) (0 : Int) [] (0 : Int) (0 : Int) false)).fst.hold)
  (AVal.list (3 : Nat) (takeW (Wk.mk (0 : Int) (OpD.mk (0 : Int) (0 : Int) (0 : Int) (0 : Int) false (0 : Int) (0 : Int)) false (0 : Int) (List.take s l) (0 : Int) [] (0 :
  Int) [] (0 : Int) [] [] (0 : Int) (0 : Int) (0 : Int) (0 : Int) (0 : Int) (0 : Int) (0 : Int) (0 : Int) (0 : Int) (0 : Int) (0 : Int) [] (0 : Int) (0 : Int)
  false)).fst.hold) ∧ EqA (AVal.int IntKind.i64 (takeW (Wk.mk (0 : Int) (OpD.mk (0 : Int) (0 : Int) (0 : Int) (0 : Int) false (0 : Int) (0 : Int)) false (0 : Int)
  (List.take s l) (0 : Int) [] (0 : Int) [] (0 : Int) [] [] (0 : Int) (0 : Int) (0 : Int) (0 : Int) (0 : Int) (0 : Int) (0 : Int) (0 : Int) (0 : Int) (0 : Int) (0 : Int) []
  (0 : Int) (0 : Int) false)).fst.b) (AVal.int IntKind.i64 (takeW (Wk.mk (0 : Int) (OpD.mk (0 : Int) (0 : Int) (0 : Int) (0 : Int) false (0 : Int) (0 : Int)) false (0 :
  Int) (List.take s l) (0 : Int) [] (0 : Int) [] (0 : Int) [] [] (0 : Int) (0 : Int) (0 : Int) (0 : Int) (0 : Int) (0 : Int) (0 : Int) (0 : Int) (0 : Int) (0 : Int) (0 :
  Int) [] (0 : Int) (0 : Int) false)).fst.b) ∧ EqA (AVal.int IntKind.i64 (takeW (Wk.mk (0 : Int) (OpD.mk (0 : Int) (0 : Int) (0 : Int) (0 : Int) false (0 : Int) (0 : Int))
  false (0 : Int) (List.take s l) (0 : Int) [] (0 : Int) [] (0 : Int) [] [] (0 : Int) (0 : Int) (0 : Int) (0 : Int) (0 : Int) (0 : Int) (0 : Int) (0 : Int) (0 : Int) (0 :
  Int) (0 : Int) [] (0 : Int) (0 : Int) false)).fst.k) (AVal.int IntKind.i64 (takeW (Wk.mk (0 : Int) (OpD.mk (0 : Int) (0 : Int) (0 : Int) (0 : Int) false (0 : Int) (0 :
  Int)) false (0 : Int) (List.take s l) (0 : Int) [] (0 : Int) [] (0 : Int) [] [] (0 : Int) (0 : Int) (0 : Int) (0 : Int) (0 : Int) (0 : Int) (0 : Int) (0 : Int) (0 : Int)
  (0 : Int) (0 : Int) [] (0 : Int) (0 : Int) false)).fst.k) ∧ EqA (AVal.int IntKind.i64 (takeW (Wk.mk (0 : Int) (OpD.mk (0 : Int) (0 : Int) (0 : Int) (0 : Int) false (0 :
  Int) (0 : Int)) false (0 : Int) (List.take s l) (0 : Int) [] (0 : Int) [] (0 : Int) [] [] (0 : Int) (0 : Int) (0 : Int) (0 : Int) (0 : Int) (0 : Int) (0 : Int) (0 : Int)
  (0 : Int) (0 : Int) (0 : Int) [] (0 : Int) (0 : Int) false)).fst.i) (AVal.int IntKind.i64 (takeW (Wk.mk (0 : Int) (OpD.mk (0 : Int) (0 : Int) (0 : Int) (0 : Int) false (0
  : Int) (0 : Int)) false (0 : Int) (List.take s l) (0 : Int) [] (0 : Int) [] (0 : Int) [] [] (0 : Int) (0 : Int) (0 : Int) (0 : Int) (0 : Int) (0 : Int) (0 : Int) (0 :
  Int) (0 : Int) (0 : Int) (0 : Int) [] (0 : Int) (0 : Int) false)).fst.i) ∧ EqA (AVal.int IntKind.i64 (takeW (Wk.mk (0 : Int) (OpD.mk (0 : Int) (0 : Int) (0 : Int) (0 :
  Int) false (0 : Int) (0 : Int)) false (0 : Int) (List.take s l) (0 : Int) [] (0 : Int) [] (0 : Int) [] [] (0 : Int) (0 : Int) (0 : Int) (0 : Int) (0 : Int) (0 : Int) (0 :
  Int) (0 : Int) (0 : Int) (0 : Int) (0 : Int) [] (0 : Int) (0 : Int) false)).fst.c) (AVal.int IntKind.i64 (takeW (Wk.mk (0 : Int) (OpD.mk (0 : Int) (0 : Int) (0 : Int) (0
  : Int) false (0 : Int) (0 : Int)) false (0 : Int) (List.take s l) (0 : Int) [] (0 : Int) [] (0 : Int) [] [] (0 : Int) (0 : Int) (0 : Int) (0 : Int) (0 : Int) (0 : Int) (0
  : Int) (0 : Int) (0 : Int) (0 : Int) (0 : Int) [] (0 : Int) (0 : Int) false)).fst.c) ∧ EqA (AVal.int IntKind.i64 (takeW (Wk.mk (0 : Int) (OpD.mk (0 : Int) (0 : Int) (0 :
  Int) (0 : Int) false (0 : Int) (0 : Int)) false (0 : Int) (List.take s l) (0 : Int) [] (0 : Int) [] (0 : Int) [] [] (0 : Int) (0 : Int) (0 : Int) (0 : Int) (0 : Int) (0 :
  Int) (0 : Int) (0 : Int) (0 : Int) (0 : Int) (0 : Int) [] (0 : Int) (0 : Int) false)).fst.bor) (AVal.int IntKind.i64 (takeW (Wk.mk (0 : Int) (OpD.mk (0 : Int) (0 : Int)
  (0 : Int) (0 : Int) false (0 : Int) (0 : Int)) false (0 : Int) (List.take s l) (0 : Int) [] (0 : Int) [] (0 : Int) [] [] (0 : Int) (0 : Int) (0 : Int) (0 : Int) (0 : Int)
  (0 : Int) (0 : Int) (0 : Int) (0 : Int) (0 : Int) (0 : Int) [] (0 : Int) (0 : Int) false)).fst.bor) ∧ EqA (AVal.int IntKind.u64 (takeW (Wk.mk (0 : Int) (OpD.mk (0 : Int)
  (0 : Int) (0 : Int) (0 : Int) false (0 : Int) (0 : Int)) false (0 : Int) (List.take s l) (0 : Int) [] (0 : Int) [] (0 : Int) [] [] (0 : Int) (0 : Int) (0 : Int) (0 : Int)
  (0 : Int) (0 : Int) (0 : Int) (0 : Int) (0 : Int) (0 : Int) (0 : Int) [] (0 : Int) (0 : Int) false)).fst.h) (AVal.int IntKind.u64 (takeW (Wk.mk (0 : Int) (OpD.mk (0 :
  Int) (0 : Int) (0 : Int) (0 : Int) false (0 : Int) (0 : Int)) false (0 : Int) (List.take s l) (0 : Int) [] (0 : Int) [] (0 : Int) [] [] (0 : Int) (0 : Int) (0 : Int) (0 :
  Int) (0 : Int) (0 : Int) (0 : Int) (0 : Int) (0 : Int) (0 : Int) (0 : Int) [] (0 : Int) (0 : Int) false)).fst.h) ∧ EqA (AVal.int IntKind.u64 (takeW (Wk.mk (0 : Int)
  (OpD.mk (0 : Int) (0 : Int) (0 : Int) (0 : Int) false (0 : Int) (0 : Int)) false (0 : Int) (List.take s l) (0 : Int) [] (0 : Int) [] (0 : Int) [] [] (0 : Int) (0 : Int)
  (0 : Int) (0 : Int) (0 : Int) (0 : Int) (0 : Int) (0 : Int) (0 : Int) (0 : Int) (0 : Int) [] (0 : Int) (0 : Int) false)).fst.n) (AVal.int IntKind.u64 (takeW (Wk.mk (0 :
  Int) (OpD.mk (0 : Int) (0 : Int) (0 : Int) (0 : Int) false (0 : Int) (0 : Int)) false (0 : Int) (List.take s l) (0 : Int) [] (0 : Int) [] (0 : Int) [] [] (0 : Int) (0 :
  Int) (0 : Int) (0 : Int) (0 : Int) (0 : Int) (0 : Int) (0 : Int) (0 : Int) (0 : Int) (0 : Int) [] (0 : Int) (0 : Int) false)).fst.n) ∧ EqA (AVal.int IntKind.u64 (takeW
  (Wk.mk (0 : Int) (OpD.mk (0 : Int) (0 : Int) (0 : Int) (0 : Int) false (0 : Int) (0 : Int)) false (0 : Int) (List.take s l) (0 : Int) [] (0 : Int) [] (0 : Int) [] [] (0 :
  Int) (0 : Int) (0 : Int) (0 : Int) (0 : Int) (0 : Int) (0 : Int) (0 : Int) (0 : Int) (0 : Int) (0 : Int) [] (0 : Int) (0 : Int) false)).fst.v) (AVal.int IntKind.u64
  (takeW (Wk.mk (0 : Int) (OpD.mk (0 : Int) (0 : Int) (0 : Int) (0 : Int) false (0 : Int) (0 : Int)) false (0 : Int) (List.take s l) (0 : Int) [] (0 : Int) [] (0 : Int) []
  [] (0 : Int) (0 : Int) (0 : Int) (0 : Int) (0 : Int) (0 : Int) (0 : Int) (0 : Int) (0 : Int) (0 : Int) (0 : Int) [] (0 : Int) (0 : Int) false)).fst.v) ∧ EqA (AVal.int
  IntKind.u64 (takeW (Wk.mk (0 : Int) (OpD.mk (0 : Int) (0 : Int) (0 : Int) (0 : Int) false (0 : Int) (0 : Int)) false (0 : Int) (List.take s l) (0 : Int) [] (0 : Int) []
  (0 : Int) [] [] (0 : Int) (0 : Int) (0 : Int) (0 : Int) (0 : Int) (0 : Int) (0 : Int) (0 : Int) (0 : Int) (0 : Int) (0 : Int) [] (0 : Int) (0 : Int) false)).fst.u)
  (AVal.int IntKind.u64 (takeW (Wk.mk (0 : Int) (OpD.mk (0 : Int) (0 : Int) (0 : Int) (0 : Int) false (0 : Int) (0 : Int)) false (0 : Int) (List.take s l) (0 : Int) [] (0 :
  Int) [] (0 : Int) [] [] (0 : Int) (0 : Int) (0 : Int) (0 : Int) (0 : Int) (0 : Int) (0 : Int) (0 : Int) (0 : Int) (0 : Int) (0 : Int) [] (0 : Int) (0 : Int)
  false)).fst.u) ∧ EqA (AVal.int IntKind.u64 (takeW (Wk.mk (0 : Int) (OpD.mk (0 : Int) (0 : Int) (0 : Int) (0 : Int) false (0 : Int) (0 : Int)) false (0 : Int) (List.take s
  l) (0 : Int) [] (0 : Int) [] (0 : Int) [] [] (0 : Int) (0 : Int) (0 : Int) (0 : Int) (0 : Int) (0 : Int) (0 : Int) (0 : Int) (0 : Int) (0 : Int) (0 : Int) [] (0 : Int) (0
  : Int) false)).fst.g) (AVal.int IntKind.u64 (takeW (Wk.mk (0 : Int) (OpD.mk (0 : Int) (0 : Int) (0 : Int) (0 : Int) false (0 : Int) (0 : Int)) false (0 : Int) (List.take
  s l) (0 : Int) [] (0 : Int) [] (0 : Int) [] [] (0 : Int) (0 : Int) (0 : Int) (0 : Int) (0 : Int) (0 : Int) (0 : Int) (0 : Int) (0 : Int) (0 : Int) (0 : Int) [] (0 : Int)
  (0 : Int) false)).fst.g) ∧ EqA (AVal.int IntKind.i64 (takeW (Wk.mk (0 : Int) (OpD.mk (0 : Int) (0 : Int) (0 : Int) (0 : Int) false (0 : Int) (0 : Int)) false (0 : Int)
  (List.take s l) (0 : Int) [] (0 : Int) [] (0 : Int) [] [] (0 : Int) (0 : Int) (0 : Int) (0 : Int) (0 : Int) (0 : Int) (0 : Int) (0 : Int) (0 : Int) (0 : Int) (0 : Int) []
  (0 : Int) (0 : Int) false)).fst.j) (AVal.int IntKind.i64 (takeW (Wk.mk (0 : Int) (OpD.mk (0 : Int) (0 : Int) (0 : Int) (0 : Int) false (0 : Int) (0 : Int)) false (0 :
  Int) (List.take s l) (0 : Int) [] (0 : Int) [] (0 : Int) [] [] (0 : Int) (0 : Int) (0 : Int) (0 : Int) (0 : Int) (0 : Int) (0 : Int) (0 : Int) (0 : Int) (0 : Int) (0 :
  Int) [] (0 : Int) (0 : Int) false)).fst.j) ∧ EqA (AVal.list (22 : Nat) (takeW (Wk.mk (0 : Int) (OpD.mk (0 : Int) (0 : Int) (0 : Int) (0 : Int) false (0 : Int) (0 : Int))
  false (0 : Int) (List.take s l) (0 : Int) [] (0 : Int) [] (0 : Int) [] [] (0 : Int) (0 : Int) (0 : Int) (0 : Int) (0 : Int) (0 : Int) (0 : Int) (0 : Int) (0 : Int) (0 :
  Int) (0 : Int) [] (0 : Int) (0 : Int) false)).fst.read) (AVal.list (22 : Nat) (takeW (Wk.mk (0 : Int) (OpD.mk (0 : Int) (0 : Int) (0 : Int) (0 : Int) false (0 : Int) (0 :
  Int)) false (0 : Int) (List.take s l) (0 : Int) [] (0 : Int) [] (0 : Int) [] [] (0 : Int) (0 : Int) (0 : Int) (0 : Int) (0 : Int) (0 : Int) (0 : Int) (0 : Int) (0 : Int)
  (0 : Int) (0 : Int) [] (0 : Int) (0 : Int) false)).fst.read) ∧ EqA (AVal.int IntKind.u64 (takeW (Wk.mk (0 : Int) (OpD.mk (0 : Int) (0 : Int) (0 : Int) (0 : Int) false (0
  : Int) (0 : Int)) false (0 : Int) (List.take s l) (0 : Int) [] (0 : Int) [] (0 : Int) [] [] (0 : Int) (0 : Int) (0 : Int) (0 : Int) (0 : Int) (0 : Int) (0 : Int) (0 :
  Int) (0 : Int) (0 : Int) (0 : Int) [] (0 : Int) (0 : Int) false)).fst.t) (AVal.int IntKind.u64 (takeW (Wk.mk (0 : Int) (OpD.mk (0 : Int) (0 : Int) (0 : Int) (0 : Int)
  false (0 : Int) (0 : Int)) false (0 : Int) (List.take s l) (0 : Int) [] (0 : Int) [] (0 : Int) [] [] (0 : Int) (0 : Int) (0 : Int) (0 : Int) (0 : Int) (0 : Int) (0 : Int)
  (0 : Int) (0 : Int) (0 : Int) (0 : Int) [] (0 : Int) (0 : Int) false)).fst.t) ∧ EqA (AVal.int IntKind.i64 (takeW (Wk.mk (0 : Int) (OpD.mk (0 : Int) (0 : Int) (0 : Int) (0
  : Int) false (0 : Int) (0 : Int)) false (0 : Int) (List.take s l) (0 : Int) [] (0 : Int) [] (0 : Int) [] [] (0 : Int) (0 : Int) (0 : Int) (0 : Int) (0 : Int) (0 : Int) (0
  : Int) (0 : Int) (0 : Int) (0 : Int) (0 : Int) [] (0 : Int) (0 : Int) false)).fst.ret) (AVal.int IntKind.i64 (takeW (Wk.mk (0 : Int) (OpD.mk (0 : Int) (0 : Int) (0 : Int)
  (0 : Int) false (0 : Int) (0 : Int)) false (0 : Int) (List.take s l) (0 : Int) [] (0 : Int) [] (0 : Int) [] [] (0 : Int) (0 : Int) (0 : Int) (0 : Int) (0 : Int) (0 : Int)
  (0 : Int) (0 : Int) (0 : Int) (0 : Int) (0 : Int) [] (0 : Int) (0 : Int) false)).fst.ret) ∧ EqA (AVal.bool (takeW (Wk.mk (0 : Int) (OpD.mk (0 : Int) (0 : Int) (0 : Int)
  (0 : Int) false (0 : Int) (0 : Int)) false (0 : Int) (List.take s l) (0 : Int) [] (0 : Int) [] (0 : Int) [] [] (0 : Int) (0 : Int) (0 : Int) (0 : Int) (0 : Int) (0 : Int)
  (0 : Int) (0 : Int) (0 : Int) (0 : Int) (0 : Int) [] (0 : Int) (0 : Int) false)).fst.give) (AVal.bool (takeW (Wk.mk (0 : Int) (OpD.mk (0 : Int) (0 : Int) (0 : Int) (0 :
  Int) false (0 : Int) (0 : Int)) false (0 : Int) (List.take s l) (0 : Int) [] (0 : Int) [] (0 : Int) [] [] (0 : Int) (0 : Int) (0 : Int) (0 : Int) (0 : Int) (0 : Int) (0 :
  Int) (0 : Int) (0 : Int) (0 : Int) (0 : Int) [] (0 : Int) (0 : Int) false)).fst.give) ∧ True) ∧ True) ∧ True) ∧ ∀ (s_1 : Nat), s_1 ≤ List.length l → cnd (decide ((↑s_1 :
  Int) < (↑(List.length l) : Int))) (Bear (Wk.mk (0 : Int) (OpD.mk (0 : Int) (0 : Int) (0 : Int) (0 : Int) false (0 : Int) (0 : Int)) false (0 : Int) [] (0 : Int) [] (0 :
  Int) [] (0 : Int) [] (List.drop s_1 l) (0 : Int) (0 : Int) (0 : Int) (0 : Int) (0 : Int) (0 : Int) (0 : Int) (0 : Int) (0 : Int) (0 : Int) (0 : Int) [] (0 : Int) (0 :
  Int) false) ∧ ((0 : Int) ≤ (↑s_1 : Int) ∧ (↑s_1 : Int) < (↑(List.length l) : Int)) ∧ cnd ((nextW (Wk.mk (0 : Int) (OpD.mk (0 : Int) (0 : Int) (0 : Int) (0 : Int) false (0
  : Int) (0 : Int)) false (0 : Int) [] (0 : Int) [] (0 : Int) [] (0 : Int) [] (List.drop s_1 l) (0 : Int) (0 : Int) (0 : Int) (0 : Int) (0 : Int) (0 : Int) (0 : Int) (0 :
  Int) (0 : Int) (0 : Int) (0 : Int) [] (0 : Int) (0 : Int) false)).snd != List.getD l (Int.toNat (↑s_1 : Int)) (0 : Int)) (K (AVal.bool false)) (∃ (s' : Nat), s' ≤
  List.length l ∧ List.length l - s' < List.length l - s_1 ∧ (EqA (AVal.int IntKind.i64 (IntKind.wrap IntKind.i64 ((↑s_1 : Int) + (1 : Int)))) (AVal.int IntKind.i64 (↑s' :
  Int)) ∧ True) ∧ (EqR (Res.cells (38 : Nat) [AVal.int IntKind.i64 c.w, AVal.int IntKind.i64 c.s, AVal.int IntKind.i64 c.b, AVal.int IntKind.i64 c.o, AVal.int IntKind.i64
  c.e, AVal.int IntKind.i64 c.r, AVal.int IntKind.i64 c.a, AVal.int IntKind.u64 c.l]) (Res.cells (38 : Nat) [AVal.int IntKind.i64 c.w, AVal.int IntKind.i64 c.s, AVal.int
  IntKind.i64 c.b, AVal.int IntKind.i64 c.o, AVal.int IntKind.i64 c.e, AVal.int IntKind.i64 c.r, AVal.int IntKind.i64 c.a, AVal.int IntKind.u64 c.l]) ∧ (True ∧ EqA
  (AVal.int IntKind.i64 (nextW (Wk.mk (0 : Int) (OpD.mk (0 : Int) (0 : Int) (0 : Int) (0 : Int) false (0 : Int) (0 : Int)) false (0 : Int) [] (0 : Int) [] (0 : Int) [] (0 :
  Int) [] (List.drop s_1 l) (0 : Int) (0 : Int) (0 : Int) (0 : Int) (0 : Int) (0 : Int) (0 : Int) (0 : Int) (0 : Int) (0 : Int) (0 : Int) [] (0 : Int) (0 : Int)
  false)).fst.line) (AVal.int IntKind.i64 (0 : Int)) ∧ EqA (AVal.int IntKind.i64 (nextW (Wk.mk (0 : Int) (OpD.mk (0 : Int) (0 : Int) (0 : Int) (0 : Int) false (0 : Int) (0
  : Int)) false (0 : Int) [] (0 : Int) [] (0 : Int) [] (0 : Int) [] (List.drop s_1 l) (0 : Int) (0 : Int) (0 : Int) (0 : Int) (0 : Int) (0 : Int) (0 : Int) (0 : Int) (0 :
  Int) (0 : Int) (0 : Int) [] (0 : Int) (0 : Int) false)).fst.op.k) (AVal.int IntKind.i64 (0 : Int)) ∧ EqA (AVal.int IntKind.u64 (nextW (Wk.mk (0 : Int) (OpD.mk (0 : Int)
  (0 : Int) (0 : Int) (0 : Int) false (0 : Int) (0 : Int)) false (0 : Int) [] (0 : Int) [] (0 : Int) [] (0 : Int) [] (List.drop s_1 l) (0 : Int) (0 : Int) (0 : Int) (0 :
  Int) (0 : Int) (0 : Int) (0 : Int) (0 : Int) (0 : Int) (0 : Int) (0 : Int) [] (0 : Int) (0 : Int) false)).fst.op.t) (AVal.int IntKind.u64 (0 : Int)) ∧ EqA (AVal.int
  IntKind.u64 (nextW (Wk.mk (0 : Int) (OpD.mk (0 : Int) (0 : Int) (0 : Int) (0 : Int) false (0 : Int) (0 : Int)) false (0 : Int) [] (0 : Int) [] (0 : Int) [] (0 : Int) []
  (List.drop s_1 l) (0 : Int) (0 : Int) (0 : Int) (0 : Int) (0 : Int) (0 : Int) (0 : Int) (0 : Int) (0 : Int) (0 : Int) (0 : Int) [] (0 : Int) (0 : Int) false)).fst.op.x)
  (AVal.int IntKind.u64 (0 : Int)) ∧ EqA (AVal.int IntKind.i64 (nextW (Wk.mk (0 : Int) (OpD.mk (0 : Int) (0 : Int) (0 : Int) (0 : Int) false (0 : Int) (0 : Int)) false (0 :
  Int) [] (0 : Int) [] (0 : Int) [] (0 : Int) [] (List.drop s_1 l) (0 : Int) (0 : Int) (0 : Int) (0 : Int) (0 : Int) (0 : Int) (0 : Int) (0 : Int) (0 : Int) (0 : Int) (0 :
  Int) [] (0 : Int) (0 : Int) false)).fst.op.s) (AVal.int IntKind.i64 (0 : Int)) ∧ EqA (AVal.bool (nextW (Wk.mk (0 : Int) (OpD.mk (0 : Int) (0 : Int) (0 : Int) (0 : Int)
  false (0 : Int) (0 : Int)) false (0 : Int) [] (0 : Int) [] (0 : Int) [] (0 : Int) [] (List.drop s_1 l) (0 : Int) (0 : Int) (0 : Int) (0 : Int) (0 : Int) (0 : Int) (0 :
  Int) (0 : Int) (0 : Int) (0 : Int) (0 : Int) [] (0 : Int) (0 : Int) false)).fst.op.u) (AVal.bool false) ∧ EqA (AVal.int IntKind.i64 (nextW (Wk.mk (0 : Int) (OpD.mk (0 :
  Int) (0 : Int) (0 : Int) (0 : Int) false (0 : Int) (0 : Int)) false (0 : Int) [] (0 : Int) [] (0 : Int) [] (0 : Int) [] (List.drop s_1 l) (0 : Int) (0 : Int) (0 : Int) (0
  : Int) (0 : Int) (0 : Int) (0 : Int) (0 : Int) (0 : Int) (0 : Int) (0 : Int) [] (0 : Int) (0 : Int) false)).fst.op.b) (AVal.int IntKind.i64 (0 : Int)) ∧ EqA (AVal.int
  IntKind.i64 (nextW (Wk.mk (0 : Int) (OpD.mk (0 : Int) (0 : Int) (0 : Int) (0 : Int) false (0 : Int) (0 : Int)) false (0 : Int) [] (0 : Int) [] (0 : Int) [] (0 : Int) []
  (List.drop s_1 l) (0 : Int) (0 : Int) (0 : Int) (0 : Int) (0 : Int) (0 : Int) (0 : Int) (0 : Int) (0 : Int) (0 : Int) (0 : Int) [] (0 : Int) (0 : Int) false)).fst.op.n)
  (AVal.int IntKind.i64 (0 : Int)) ∧ EqA (AVal.bool (nextW (Wk.mk (0 : Int) (OpD.mk (0 : Int) (0 : Int) (0 : Int) (0 : Int) false (0 : Int) (0 : Int)) false (0 : Int) [] (0
  : Int) [] (0 : Int) [] (0 : Int) [] (List.drop s_1 l) (0 : Int) (0 : Int) (0 : Int) (0 : Int) (0 : Int) (0 : Int) (0 : Int) (0 : Int) (0 : Int) (0 : Int) (0 : Int) [] (0
  : Int) (0 : Int) false)).fst.pin) (AVal.bool false) ∧ EqA (AVal.int IntKind.u64 (nextW (Wk.mk (0 : Int) (OpD.mk (0 : Int) (0 : Int) (0 : Int) (0 : Int) false (0 : Int) (0
  : Int)) false (0 : Int) [] (0 : Int) [] (0 : Int) [] (0 : Int) [] (List.drop s_1 l) (0 : Int) (0 : Int) (0 : Int) (0 : Int) (0 : Int) (0 : Int) (0 : Int) (0 : Int) (0 :
  Int) (0 : Int) (0 : Int) [] (0 : Int) (0 : Int) false)).fst.e) (AVal.int IntKind.u64 (0 : Int)) ∧ EqA (AVal.list (3 : Nat) (nextW (Wk.mk (0 : Int) (OpD.mk (0 : Int) (0 :
  Int) (0 : Int) (0 : Int) false (0 : Int) (0 : Int)) false (0 : Int) [] (0 : Int) [] (0 : Int) [] (0 : Int) [] (List.drop s_1 l) (0 : Int) (0 : Int) (0 : Int) (0 : Int) (0
  : Int) (0 : Int) (0 : Int) (0 : Int) (0 : Int) (0 : Int) (0 : Int) [] (0 : Int) (0 : Int) false)).fst.rack) (AVal.list (3 : Nat) []) ∧ EqA (AVal.int IntKind.u64 (nextW
  (Wk.mk (0 : Int) (OpD.mk (0 : Int) (0 : Int) (0 : Int) (0 : Int) false (0 : Int) (0 : Int)) false (0 : Int) [] (0 : Int) [] (0 : Int) [] (0 : Int) [] (List.drop s_1 l) (0
  : Int) (0 : Int) (0 : Int) (0 : Int) (0 : Int) (0 : Int) (0 : Int) (0 : Int) (0 : Int) (0 : Int) (0 : Int) [] (0 : Int) (0 : Int) false)).fst.t0) (AVal.int IntKind.u64 (0
  : Int)) ∧ EqA (AVal.list (3 : Nat) (nextW (Wk.mk (0 : Int) (OpD.mk (0 : Int) (0 : Int) (0 : Int) (0 : Int) false (0 : Int) (0 : Int)) false (0 : Int) [] (0 : Int) [] (0 :
  Int) [] (0 : Int) [] (List.drop s_1 l) (0 : Int) (0 : Int) (0 : Int) (0 : Int) (0 : Int) (0 : Int) (0 : Int) (0 : Int) (0 : Int) (0 : Int) (0 : Int) [] (0 : Int) (0 :
  Int) false)).fst.l0) (AVal.list (3 : Nat) []) ∧ EqA (AVal.int IntKind.u64 (nextW (Wk.mk (0 : Int) (OpD.mk (0 : Int) (0 : Int) (0 : Int) (0 : Int) false (0 : Int) (0 :
  Int)) false (0 : Int) [] (0 : Int) [] (0 : Int) [] (0 : Int) [] (List.drop s_1 l) (0 : Int) (0 : Int) (0 : Int) (0 : Int) (0 : Int) (0 : Int) (0 : Int) (0 : Int) (0 :
  Int) (0 : Int) (0 : Int) [] (0 : Int) (0 : Int) false)).fst.t1) (AVal.int IntKind.u64 (0 : Int)) ∧ EqA (AVal.list (3 : Nat) (nextW (Wk.mk (0 : Int) (OpD.mk (0 : Int) (0 :
  Int) (0 : Int) (0 : Int) false (0 : Int) (0 : Int)) false (0 : Int) [] (0 : Int) [] (0 : Int) [] (0 : Int) [] (List.drop s_1 l) (0 : Int) (0 : Int) (0 : Int) (0 : Int) (0
  : Int) (0 : Int) (0 : Int) (0 : Int) (0 : Int) (0 : Int) (0 : Int) [] (0 : Int) (0 : Int) false)).fst.l1) (AVal.list (3 : Nat) []) ∧ EqA (AVal.int IntKind.u64 (nextW
  (Wk.mk (0 : Int) (OpD.mk (0 : Int) (0 : Int) (0 : Int) (0 : Int) false (0 : Int) (0 : Int)) false (0 : Int) [] (0 : Int) [] (0 : Int) [] (0 : Int) [] (List.drop s_1 l) (0
  : Int) (0 : Int) (0 : Int) (0 : Int) (0 : Int) (0 : Int) (0 : Int) (0 : Int) (0 : Int) (0 : Int) (0 : Int) [] (0 : Int) (0 : Int) false)).fst.t2) (AVal.int IntKind.u64 (0
  : Int)) ∧ EqA (AVal.list (3 : Nat) (nextW (Wk.mk (0 : Int) (OpD.mk (0 : Int) (0 : Int) (0 : Int) (0 : Int) false (0 : Int) (0 : Int)) false (0 : Int) [] (0 : Int) [] (0 :
  Int) [] (0 : Int) [] (List.drop s_1 l) (0 : Int) (0 : Int) (0 : Int) (0 : Int) (0 : Int) (0 : Int) (0 : Int) (0 : Int) (0 : Int) (0 : Int) (0 : Int) [] (0 : Int) (0 :
  Int) false)).fst.l2) (AVal.list (3 : Nat) []) ∧ EqA (AVal.list (3 : Nat) (nextW (Wk.mk (0 : Int) (OpD.mk (0 : Int) (0 : Int) (0 : Int) (0 : Int) false (0 : Int) (0 :
  Int)) false (0 : Int) [] (0 : Int) [] (0 : Int) [] (0 : Int) [] (List.drop s_1 l) (0 : Int) (0 : Int) (0 : Int) (0 : Int) (0 : Int) (0 : Int) (0 : Int) (0 : Int) (0 :
  Int) (0 : Int) (0 : Int) [] (0 : Int) (0 : Int) false)).fst.hold) (AVal.list (3 : Nat) (List.drop s' l)) ∧ EqA (AVal.int IntKind.i64 (nextW (Wk.mk (0 : Int) (OpD.mk (0 :
  Int) (0 : Int) (0 : Int) (0 : Int) false (0 : Int) (0 : Int)) false (0 : Int) [] (0 : Int) [] (0 : Int) [] (0 : Int) [] (List.drop s_1 l) (0 : Int) (0 : Int) (0 : Int) (0
  : Int) (0 : Int) (0 : Int) (0 : Int) (0 : Int) (0 : Int) (0 : Int) (0 : Int) [] (0 : Int) (0 : Int) false)).fst.b) (AVal.int IntKind.i64 (0 : Int)) ∧ EqA (AVal.int
  IntKind.i64 (nextW (Wk.mk (0 : Int) (OpD.mk (0 : Int) (0 : Int) (0 : Int) (0 : Int) false (0 : Int) (0 : Int)) false (0 : Int) [] (0 : Int) [] (0 : Int) [] (0 : Int) []
  (List.drop s_1 l) (0 : Int) (0 : Int) (0 : Int) (0 : Int) (0 : Int) (0 : Int) (0 : Int) (0 : Int) (0 : Int) (0 : Int) (0 : Int) [] (0 : Int) (0 : Int) false)).fst.k)
  (AVal.int IntKind.i64 (0 : Int)) ∧ EqA (AVal.int IntKind.i64 (nextW (Wk.mk (0 : Int) (OpD.mk (0 : Int) (0 : Int) (0 : Int) (0 : Int) false (0 : Int) (0 : Int)) false (0 :
  Int) [] (0 : Int) [] (0 : Int) [] (0 : Int) [] (List.drop s_1 l) (0 : Int) (0 : Int) (0 : Int) (0 : Int) (0 : Int) (0 : Int) (0 : Int) (0 : Int) (0 : Int) (0 : Int) (0 :
  Int) [] (0 : Int) (0 : Int) false)).fst.i) (AVal.int IntKind.i64 (0 : Int)) ∧ EqA (AVal.int IntKind.i64 (nextW (Wk.mk (0 : Int) (OpD.mk (0 : Int) (0 : Int) (0 : Int) (0 :
  Int) false (0 : Int) (0 : Int)) false (0 : Int) [] (0 : Int) [] (0 : Int) [] (0 : Int) [] (List.drop s_1 l) (0 : Int) (0 : Int) (0 : Int) (0 : Int) (0 : Int) (0 : Int) (0
  : Int) (0 : Int) (0 : Int) (0 : Int) (0 : Int) [] (0 : Int) (0 : Int) false)).fst.c) (AVal.int IntKind.i64 (0 : Int)) ∧ EqA (AVal.int IntKind.i64 (nextW (Wk.mk (0 : Int)
  (OpD.mk (0 : Int) (0 : Int) (0 : Int) (0 : Int) false (0 : Int) (0 : Int)) false (0 : Int) [] (0 : Int) [] (0 : Int) [] (0 : Int) [] (List.drop s_1 l) (0 : Int) (0 : Int)
  (0 : Int) (0 : Int) (0 : Int) (0 : Int) (0 : Int) (0 : Int) (0 : Int) (0 : Int) (0 : Int) [] (0 : Int) (0 : Int) false)).fst.bor) (AVal.int IntKind.i64 (0 : Int)) ∧ EqA
  (AVal.int IntKind.u64 (nextW (Wk.mk (0 : Int) (OpD.mk (0 : Int) (0 : Int) (0 : Int) (0 : Int) false (0 : Int) (0 : Int)) false (0 : Int) [] (0 : Int) [] (0 : Int) [] (0 :
  Int) [] (List.drop s_1 l) (0 : Int) (0 : Int) (0 : Int) (0 : Int) (0 : Int) (0 : Int) (0 : Int) (0 : Int) (0 : Int) (0 : Int) (0 : Int) [] (0 : Int) (0 : Int)
  false)).fst.h) (AVal.int IntKind.u64 (0 : Int)) ∧ EqA (AVal.int IntKind.u64 (nextW (Wk.mk (0 : Int) (OpD.mk (0 : Int) (0 : Int) (0 : Int) (0 : Int) false (0 : Int) (0 :
  Int)) false (0 : Int) [] (0 : Int) [] (0 : Int) [] (0 : Int) [] (List.drop s_1 l) (0 : Int) (0 : Int) (0 : Int) (0 : Int) (0 : Int) (0 : Int) (0 : Int) (0 : Int) (0 :
  Int) (0 : Int) (0 : Int) [] (0 : Int) (0 : Int) false)).fst.n) (AVal.int IntKind.u64 (0 : Int)) ∧ EqA (AVal.int IntKind.u64 (nextW (Wk.mk (0 : Int) (OpD.mk (0 : Int) (0 :
  Int) (0 : Int) (0 : Int) false (0 : Int) (0 : Int)) false (0 : Int) [] (0 : Int) [] (0 : Int) [] (0 : Int) [] (List.drop s_1 l) (0 : Int) (0 : Int) (0 : Int) (0 : Int) (0
  : Int) (0 : Int) (0 : Int) (0 : Int) (0 : Int) (0 : Int) (0 : Int) [] (0 : Int) (0 : Int) false)).fst.v) (AVal.int IntKind.u64 (0 : Int)) ∧ EqA (AVal.int IntKind.u64
  (nextW (Wk.mk (0 : Int) (OpD.mk (0 : Int) (0 : Int) (0 : Int) (0 : Int) false (0 : Int) (0 : Int)) false (0 : Int) [] (0 : Int) [] (0 : Int) [] (0 : Int) [] (List.drop
  s_1 l) (0 : Int) (0 : Int) (0 : Int) (0 : Int) (0 : Int) (0 : Int) (0 : Int) (0 : Int) (0 : Int) (0 : Int) (0 : Int) [] (0 : Int) (0 : Int) false)).fst.u) (AVal.int
  IntKind.u64 (0 : Int)) ∧ EqA (AVal.int IntKind.u64 (nextW (Wk.mk (0 : Int) (OpD.mk (0 : Int) (0 : Int) (0 : Int) (0 : Int) false (0 : Int) (0 : Int)) false (0 : Int) []
  (0 : Int) [] (0 : Int) [] (0 : Int) [] (List.drop s_1 l) (0 : Int) (0 : Int) (0 : Int) (0 : Int) (0 : Int) (0 : Int) (0 : Int) (0 : Int) (0 : Int) (0 : Int) (0 : Int) []
  (0 : Int) (0 : Int) false)).fst.g) (AVal.int IntKind.u64 (0 : Int)) ∧ EqA (AVal.int IntKind.i64 (nextW (Wk.mk (0 : Int) (OpD.mk (0 : Int) (0 : Int) (0 : Int) (0 : Int)
  false (0 : Int) (0 : Int)) false (0 : Int) [] (0 : Int) [] (0 : Int) [] (0 : Int) [] (List.drop s_1 l) (0 : Int) (0 : Int) (0 : Int) (0 : Int) (0 : Int) (0 : Int) (0 :
  Int) (0 : Int) (0 : Int) (0 : Int) (0 : Int) [] (0 : Int) (0 : Int) false)).fst.j) (AVal.int IntKind.i64 (0 : Int)) ∧ EqA (AVal.list (22 : Nat) (nextW (Wk.mk (0 : Int)
  (OpD.mk (0 : Int) (0 : Int) (0 : Int) (0 : Int) false (0 : Int) (0 : Int)) false (0 : Int) [] (0 : Int) [] (0 : Int) [] (0 : Int) [] (List.drop s_1 l) (0 : Int) (0 : Int)
  (0 : Int) (0 : Int) (0 : Int) (0 : Int) (0 : Int) (0 : Int) (0 : Int) (0 : Int) (0 : Int) [] (0 : Int) (0 : Int) false)).fst.read) (AVal.list (22 : Nat) []) ∧ EqA
  (AVal.int IntKind.u64 (nextW (Wk.mk (0 : Int) (OpD.mk (0 : Int) (0 : Int) (0 : Int) (0 : Int) false (0 : Int) (0 : Int)) false (0 : Int) [] (0 : Int) [] (0 : Int) [] (0 :
  Int) [] (List.drop s_1 l) (0 : Int) (0 : Int) (0 : Int) (0 : Int) (0 : Int) (0 : Int) (0 : Int) (0 : Int) (0 : Int) (0 : Int) (0 : Int) [] (0 : Int) (0 : Int)
  false)).fst.t) (AVal.int IntKind.u64 (0 : Int)) ∧ EqA (AVal.int IntKind.i64 (nextW (Wk.mk (0 : Int) (OpD.mk (0 : Int) (0 : Int) (0 : Int) (0 : Int) false (0 : Int) (0 :
  Int)) false (0 : Int) [] (0 : Int) [] (0 : Int) [] (0 : Int) [] (List.drop s_1 l) (0 : Int) (0 : Int) (0 : Int) (0 : Int) (0 : Int) (0 : Int) (0 : Int) (0 : Int) (0 :
  Int) (0 : Int) (0 : Int) [] (0 : Int) (0 : Int) false)).fst.ret) (AVal.int IntKind.i64 (0 : Int)) ∧ EqA (AVal.bool (nextW (Wk.mk (0 : Int) (OpD.mk (0 : Int) (0 : Int) (0
  : Int) (0 : Int) false (0 : Int) (0 : Int)) false (0 : Int) [] (0 : Int) [] (0 : Int) [] (0 : Int) [] (List.drop s_1 l) (0 : Int) (0 : Int) (0 : Int) (0 : Int) (0 : Int)
  (0 : Int) (0 : Int) (0 : Int) (0 : Int) (0 : Int) (0 : Int) [] (0 : Int) (0 : Int) false)).fst.give) (AVal.bool false) ∧ True) ∧ (True ∧ EqA (AVal.int IntKind.i64 (takeW
  (Wk.mk (0 : Int) (OpD.mk (0 : Int) (0 : Int) (0 : Int) (0 : Int) false (0 : Int) (0 : Int)) false (0 : Int) (List.take s l) (0 : Int) [] (0 : Int) [] (0 : Int) [] [] (0 :
  Int) (0 : Int) (0 : Int) (0 : Int) (0 : Int) (0 : Int) (0 : Int) (0 : Int) (0 : Int) (0 : Int) (0 : Int) [] (0 : Int) (0 : Int) false)).fst.line) (AVal.int IntKind.i64
  (takeW (Wk.mk (0 : Int) (OpD.mk (0 : Int) (0 : Int) (0 : Int) (0 : Int) false (0 : Int) (0 : Int)) false (0 : Int) (List.take s l) (0 : Int) [] (0 : Int) [] (0 : Int) []
  [] (0 : Int) (0 : Int) (0 : Int) (0 : Int) (0 : Int) (0 : Int) (0 : Int) (0 : Int) (0 : Int) (0 : Int) (0 : Int) [] (0 : Int) (0 : Int) false)).fst.line) ∧ EqA (AVal.int
  IntKind.i64 (takeW (Wk.mk (0 : Int) (OpD.mk (0 : Int) (0 : Int) (0 : Int) (0 : Int) false (0 : Int) (0 : Int)) false (0 : Int) (List.take s l) (0 : Int) [] (0 : Int) []
  (0 : Int) [] [] (0 : Int) (0 : Int) (0 : Int) (0 : Int) (0 : Int) (0 : Int) (0 : Int) (0 : Int) (0 : Int) (0 : Int) (0 : Int) [] (0 : Int) (0 : Int) false)).fst.op.k)
  (AVal.int IntKind.i64 (takeW (Wk.mk (0 : Int) (OpD.mk (0 : Int) (0 : Int) (0 : Int) (0 : Int) false (0 : Int) (0 : Int)) false (0 : Int) (List.take s l) (0 : Int) [] (0 :
  Int) [] (0 : Int) [] [] (0 : Int) (0 : Int) (0 : Int) (0 : Int) (0 : Int) (0 : Int) (0 : Int) (0 : Int) (0 : Int) (0 : Int) (0 : Int) [] (0 : Int) (0 : Int)
  false)).fst.op.k) ∧ EqA (AVal.int IntKind.u64 (takeW (Wk.mk (0 : Int) (OpD.mk (0 : Int) (0 : Int) (0 : Int) (0 : Int) false (0 : Int) (0 : Int)) false (0 : Int)
  (List.take s l) (0 : Int) [] (0 : Int) [] (0 : Int) [] [] (0 : Int) (0 : Int) (0 : Int) (0 : Int) (0 : Int) (0 : Int) (0 : Int) (0 : Int) (0 : Int) (0 : Int) (0 : Int) []
  (0 : Int) (0 : Int) false)).fst.op.t) (AVal.int IntKind.u64 (takeW (Wk.mk (0 : Int) (OpD.mk (0 : Int) (0 : Int) (0 : Int) (0 : Int) false (0 : Int) (0 : Int)) false (0 :
  Int) (List.take s l) (0 : Int) [] (0 : Int) [] (0 : Int) [] [] (0 : Int) (0 : Int) (0 : Int) (0 : Int) (0 : Int) (0 : Int) (0 : Int) (0 : Int) (0 : Int) (0 : Int) (0 :
  Int) [] (0 : Int) (0 : Int) false)).fst.op.t) ∧ EqA (AVal.int IntKind.u64 (takeW (Wk.mk (0 : Int) (OpD.mk (0 : Int) (0 : Int) (0 : Int) (0 : Int) false (0 : Int) (0 :
  Int)) false (0 : Int) (List.take s l) (0 : Int) [] (0 : Int) [] (0 : Int) [] [] (0 : Int) (0 : Int) (0 : Int) (0 : Int) (0 : Int) (0 : Int) (0 : Int) (0 : Int) (0 : Int)
  (0 : Int) (0 : Int) [] (0 : Int) (0 : Int) false)).fst.op.x) (AVal.int IntKind.u64 (takeW (Wk.mk (0 : Int) (OpD.mk (0 : Int) (0 : Int) (0 : Int) (0 : Int) false (0 : Int)
  (0 : Int)) false (0 : Int) (List.take s l) (0 : Int) [] (0 : Int) [] (0 : Int) [] [] (0 : Int) (0 : Int) (0 : Int) (0 : Int) (0 : Int) (0 : Int) (0 : Int) (0 : Int) (0 :
  Int) (0 : Int) (0 : Int) [] (0 : Int) (0 : Int) false)).fst.op.x) ∧ EqA (AVal.int IntKind.i64 (takeW (Wk.mk (0 : Int) (OpD.mk (0 : Int) (0 : Int) (0 : Int) (0 : Int)
  false (0 : Int) (0 : Int)) false (0 : Int) (List.take s l) (0 : Int) [] (0 : Int) [] (0 : Int) [] [] (0 : Int) (0 : Int) (0 : Int) (0 : Int) (0 : Int) (0 : Int) (0 : Int)
  (0 : Int) (0 : Int) (0 : Int) (0 : Int) [] (0 : Int) (0 : Int) false)).fst.op.s) (AVal.int IntKind.i64 (takeW (Wk.mk (0 : Int) (OpD.mk (0 : Int) (0 : Int) (0 : Int) (0 :
  Int) false (0 : Int) (0 : Int)) false (0 : Int) (List.take s l) (0 : Int) [] (0 : Int) [] (0 : Int) [] [] (0 : Int) (0 : Int) (0 : Int) (0 : Int) (0 : Int) (0 : Int) (0 :
  Int) (0 : Int) (0 : Int) (0 : Int) (0 : Int) [] (0 : Int) (0 : Int) false)).fst.op.s) ∧ EqA (AVal.bool (takeW (Wk.mk (0 : Int) (OpD.mk (0 : Int) (0 : Int) (0 : Int) (0 :
  Int) false (0 : Int) (0 : Int)) false (0 : Int) (List.take s l) (0 : Int) [] (0 : Int) [] (0 : Int) [] [] (0 : Int) (0 : Int) (0 : Int) (0 : Int) (0 : Int) (0 : Int) (0 :
  Int) (0 : Int) (0 : Int) (0 : Int) (0 : Int) [] (0 : Int) (0 : Int) false)).fst.op.u) (AVal.bool (takeW (Wk.mk (0 : Int) (OpD.mk (0 : Int) (0 : Int) (0 : Int) (0 : Int)
  false (0 : Int) (0 : Int)) false (0 : Int) (List.take s l) (0 : Int) [] (0 : Int) [] (0 : Int) [] [] (0 : Int) (0 : Int) (0 : Int) (0 : Int) (0 : Int) (0 : Int) (0 : Int)
  (0 : Int) (0 : Int) (0 : Int) (0 : Int) [] (0 : Int) (0 : Int) false)).fst.op.u) ∧ EqA (AVal.int IntKind.i64 (takeW (Wk.mk (0 : Int) (OpD.mk (0 : Int) (0 : Int) (0 : Int)
  (0 : Int) false (0 : Int) (0 : Int)) false (0 : Int) (List.take s l) (0 : Int) [] (0 : Int) [] (0 : Int) [] [] (0 : Int) (0 : Int) (0 : Int) (0 : Int) (0 : Int) (0 : Int)
  (0 : Int) (0 : Int) (0 : Int) (0 : Int) (0 : Int) [] (0 : Int) (0 : Int) false)).fst.op.b) (AVal.int IntKind.i64 (takeW (Wk.mk (0 : Int) (OpD.mk (0 : Int) (0 : Int) (0 :
  Int) (0 : Int) false (0 : Int) (0 : Int)) false (0 : Int) (List.take s l) (0 : Int) [] (0 : Int) [] (0 : Int) [] [] (0 : Int) (0 : Int) (0 : Int) (0 : Int) (0 : Int) (0 :
  Int) (0 : Int) (0 : Int) (0 : Int) (0 : Int) (0 : Int) [] (0 : Int) (0 : Int) false)).fst.op.b) ∧ EqA (AVal.int IntKind.i64 (takeW (Wk.mk (0 : Int) (OpD.mk (0 : Int) (0 :
  Int) (0 : Int) (0 : Int) false (0 : Int) (0 : Int)) false (0 : Int) (List.take s l) (0 : Int) [] (0 : Int) [] (0 : Int) [] [] (0 : Int) (0 : Int) (0 : Int) (0 : Int) (0 :
  Int) (0 : Int) (0 : Int) (0 : Int) (0 : Int) (0 : Int) (0 : Int) [] (0 : Int) (0 : Int) false)).fst.op.n) (AVal.int IntKind.i64 (takeW (Wk.mk (0 : Int) (OpD.mk (0 : Int)
  (0 : Int) (0 : Int) (0 : Int) false (0 : Int) (0 : Int)) false (0 : Int) (List.take s l) (0 : Int) [] (0 : Int) [] (0 : Int) [] [] (0 : Int) (0 : Int) (0 : Int) (0 : Int)
  (0 : Int) (0 : Int) (0 : Int) (0 : Int) (0 : Int) (0 : Int) (0 : Int) [] (0 : Int) (0 : Int) false)).fst.op.n) ∧ EqA (AVal.bool (takeW (Wk.mk (0 : Int) (OpD.mk (0 : Int)
  (0 : Int) (0 : Int) (0 : Int) false (0 : Int) (0 : Int)) false (0 : Int) (List.take s l) (0 : Int) [] (0 : Int) [] (0 : Int) [] [] (0 : Int) (0 : Int) (0 : Int) (0 : Int)
  (0 : Int) (0 : Int) (0 : Int) (0 : Int) (0 : Int) (0 : Int) (0 : Int) [] (0 : Int) (0 : Int) false)).fst.pin) (AVal.bool (takeW (Wk.mk (0 : Int) (OpD.mk (0 : Int) (0 :
  Int) (0 : Int) (0 : Int) false (0 : Int) (0 : Int)) false (0 : Int) (List.take s l) (0 : Int) [] (0 : Int) [] (0 : Int) [] [] (0 : Int) (0 : Int) (0 : Int) (0 : Int) (0 :
  Int) (0 : Int) (0 : Int) (0 : Int) (0 : Int) (0 : Int) (0 : Int) [] (0 : Int) (0 : Int) false)).fst.pin) ∧ EqA (AVal.int IntKind.u64 (takeW (Wk.mk (0 : Int) (OpD.mk (0 :
  Int) (0 : Int) (0 : Int) (0 : Int) false (0 : Int) (0 : Int)) false (0 : Int) (List.take s l) (0 : Int) [] (0 : Int) [] (0 : Int) [] [] (0 : Int) (0 : Int) (0 : Int) (0 :
  Int) (0 : Int) (0 : Int) (0 : Int) (0 : Int) (0 : Int) (0 : Int) (0 : Int) [] (0 : Int) (0 : Int) false)).fst.e) (AVal.int IntKind.u64 (takeW (Wk.mk (0 : Int) (OpD.mk (0
  : Int) (0 : Int) (0 : Int) (0 : Int) false (0 : Int) (0 : Int)) false (0 : Int) (List.take s l) (0 : Int) [] (0 : Int) [] (0 : Int) [] [] (0 : Int) (0 : Int) (0 : Int) (0
  : Int) (0 : Int) (0 : Int) (0 : Int) (0 : Int) (0 : Int) (0 : Int) (0 : Int) [] (0 : Int) (0 : Int) false)).fst.e) ∧ EqA (AVal.list (3 : Nat) (takeW (Wk.mk (0 : Int)
  (OpD.mk (0 : Int) (0 : Int) (0 : Int) (0 : Int) false (0 : Int) (0 : Int)) false (0 : Int) (List.take s l) (0 : Int) [] (0 : Int) [] (0 : Int) [] [] (0 : Int) (0 : Int)
  (0 : Int) (0 : Int) (0 : Int) (0 : Int) (0 : Int) (0 : Int) (0 : Int) (0 : Int) (0 : Int) [] (0 : Int) (0 : Int) false)).fst.rack) (AVal.list (3 : Nat) (takeW (Wk.mk (0 :
  Int) (OpD.mk (0 : Int) (0 : Int) (0 : Int) (0 : Int) false (0 : Int) (0 : Int)) false (0 : Int) (List.take s l) (0 : Int) [] (0 : Int) [] (0 : Int) [] [] (0 : Int) (0 :
  Int) (0 : Int) (0 : Int) (0 : Int) (0 : Int) (0 : Int) (0 : Int) (0 : Int) (0 : Int) (0 : Int) [] (0 : Int) (0 : Int) false)).fst.rack) ∧ EqA (AVal.int IntKind.u64 (takeW
  (Wk.mk (0 : Int) (OpD.mk (0 : Int) (0 : Int) (0 : Int) (0 : Int) false (0 : Int) (0 : Int)) false (0 : Int) (List.take s l) (0 : Int) [] (0 : Int) [] (0 : Int) [] [] (0 :
  Int) (0 : Int) (0 : Int) (0 : Int) (0 : Int) (0 : Int) (0 : Int) (0 : Int) (0 : Int) (0 : Int) (0 : Int) [] (0 : Int) (0 : Int) false)).fst.t0) (AVal.int IntKind.u64
  (takeW (Wk.mk (0 : Int) (OpD.mk (0 : Int) (0 : Int) (0 : Int) (0 : Int) false (0 : Int) (0 : Int)) false (0 : Int) (List.take s l) (0 : Int) [] (0 : Int) [] (0 : Int) []
  [] (0 : Int) (0 : Int) (0 : Int) (0 : Int) (0 : Int) (0 : Int) (0 : Int) (0 : Int) (0 : Int) (0 : Int) (0 : Int) [] (0 : Int) (0 : Int) false)).fst.t0) ∧ EqA (AVal.list
  (3 : Nat) (takeW (Wk.mk (0 : Int) (OpD.mk (0 : Int) (0 : Int) (0 : Int) (0 : Int) false (0 : Int) (0 : Int)) false (0 : Int) (List.take s l) (0 : Int) [] (0 : Int) [] (0
  : Int) [] [] (0 : Int) (0 : Int) (0 : Int) (0 : Int) (0 : Int) (0 : Int) (0 : Int) (0 : Int) (0 : Int) (0 : Int) (0 : Int) [] (0 : Int) (0 : Int) false)).fst.l0)
  (AVal.list (3 : Nat) (takeW (Wk.mk (0 : Int) (OpD.mk (0 : Int) (0 : Int) (0 : Int) (0 : Int) false (0 : Int) (0 : Int)) false (0 : Int) (List.take s l) (0 : Int) [] (0 :
  Int) [] (0 : Int) [] [] (0 : Int) (0 : Int) (0 : Int) (0 : Int) (0 : Int) (0 : Int) (0 : Int) (0 : Int) (0 : Int) (0 : Int) (0 : Int) [] (0 : Int) (0 : Int)
  false)).fst.l0) ∧ EqA (AVal.int IntKind.u64 (takeW (Wk.mk (0 : Int) (OpD.mk (0 : Int) (0 : Int) (0 : Int) (0 : Int) false (0 : Int) (0 : Int)) false (0 : Int) (List.take
  s l) (0 : Int) [] (0 : Int) [] (0 : Int) [] [] (0 : Int) (0 : Int) (0 : Int) (0 : Int) (0 : Int) (0 : Int) (0 : Int) (0 : Int) (0 : Int) (0 : Int) (0 : Int) [] (0 : Int)
  (0 : Int) false)).fst.t1) (AVal.int IntKind.u64 (takeW (Wk.mk (0 : Int) (OpD.mk (0 : Int) (0 : Int) (0 : Int) (0 : Int) false (0 : Int) (0 : Int)) false (0 : Int)
  (List.take s l) (0 : Int) [] (0 : Int) [] (0 : Int) [] [] (0 : Int) (0 : Int) (0 : Int) (0 : Int) (0 : Int) (0 : Int) (0 : Int) (0 : Int) (0 : Int) (0 : Int) (0 : Int) []
  (0 : Int) (0 : Int) false)).fst.t1) ∧ EqA (AVal.list (3 : Nat) (takeW (Wk.mk (0 : Int) (OpD.mk (0 : Int) (0 : Int) (0 : Int) (0 : Int) false (0 : Int) (0 : Int)) false (0
  : Int) (List.take s l) (0 : Int) [] (0 : Int) [] (0 : Int) [] [] (0 : Int) (0 : Int) (0 : Int) (0 : Int) (0 : Int) (0 : Int) (0 : Int) (0 : Int) (0 : Int) (0 : Int) (0 :
  Int) [] (0 : Int) (0 : Int) false)).fst.l1) (AVal.list (3 : Nat) (takeW (Wk.mk (0 : Int) (OpD.mk (0 : Int) (0 : Int) (0 : Int) (0 : Int) false (0 : Int) (0 : Int)) false
  (0 : Int) (List.take s l) (0 : Int) [] (0 : Int) [] (0 : Int) [] [] (0 : Int) (0 : Int) (0 : Int) (0 : Int) (0 : Int) (0 : Int) (0 : Int) (0 : Int) (0 : Int) (0 : Int) (0
  : Int) [] (0 : Int) (0 : Int) false)).fst.l1) ∧ EqA (AVal.int IntKind.u64 (takeW (Wk.mk (0 : Int) (OpD.mk (0 : Int) (0 : Int) (0 : Int) (0 : Int) false (0 : Int) (0 :
  Int)) false (0 : Int) (List.take s l) (0 : Int) [] (0 : Int) [] (0 : Int) [] [] (0 : Int) (0 : Int) (0 : Int) (0 : Int) (0 : Int) (0 : Int) (0 : Int) (0 : Int) (0 : Int)
  (0 : Int) (0 : Int) [] (0 : Int) (0 : Int) false)).fst.t2) (AVal.int IntKind.u64 (takeW (Wk.mk (0 : Int) (OpD.mk (0 : Int) (0 : Int) (0 : Int) (0 : Int) false (0 : Int)
  (0 : Int)) false (0 : Int) (List.take s l) (0 : Int) [] (0 : Int) [] (0 : Int) [] [] (0 : Int) (0 : Int) (0 : Int) (0 : Int) (0 : Int) (0 : Int) (0 : Int) (0 : Int) (0 :
  Int) (0 : Int) (0 : Int) [] (0 : Int) (0 : Int) false)).fst.t2) ∧ EqA (AVal.list (3 : Nat) (takeW (Wk.mk (0 : Int) (OpD.mk (0 : Int) (0 : Int) (0 : Int) (0 : Int) false
  (0 : Int) (0 : Int)) false (0 : Int) (List.take s l) (0 : Int) [] (0 : Int) [] (0 : Int) [] [] (0 : Int) (0 : Int) (0 : Int) (0 : Int) (0 : Int) (0 : Int) (0 : Int) (0 :
  Int) (0 : Int) (0 : Int) (0 : Int) [] (0 : Int) (0 : Int) false)).fst.l2) (AVal.list (3 : Nat) (takeW (Wk.mk (0 : Int) (OpD.mk (0 : Int) (0 : Int) (0 : Int) (0 : Int)
  false (0 : Int) (0 : Int)) false (0 : Int) (List.take s l) (0 : Int) [] (0 : Int) [] (0 : Int) [] [] (0 : Int) (0 : Int) (0 : Int) (0 : Int) (0 : Int) (0 : Int) (0 : Int)
  (0 : Int) (0 : Int) (0 : Int) (0 : Int) [] (0 : Int) (0 : Int) false)).fst.l2) ∧ EqA (AVal.list (3 : Nat) (takeW (Wk.mk (0 : Int) (OpD.mk (0 : Int) (0 : Int) (0 : Int) (0
  : Int) false (0 : Int) (0 : Int)) false (0 : Int) (List.take s l) (0 : Int) [] (0 : Int) [] (0 : Int) [] [] (0 : Int) (0 : Int) (0 : Int) (0 : Int) (0 : Int) (0 : Int) (0
  : Int) (0 : Int) (0 : Int) (0 : Int) (0 : Int) [] (0 : Int) (0 : Int) false)).fst.hold) (AVal.list (3 : Nat) (takeW (Wk.mk (0 : Int) (OpD.mk (0 : Int) (0 : Int) (0 : Int)
  (0 : Int) false (0 : Int) (0 : Int)) false (0 : Int) (List.take s l) (0 : Int) [] (0 : Int) [] (0 : Int) [] [] (0 : Int) (0 : Int) (0 : Int) (0 : Int) (0 : Int) (0 : Int)
  (0 : Int) (0 : Int) (0 : Int) (0 : Int) (0 : Int) [] (0 : Int) (0 : Int) false)).fst.hold) ∧ EqA (AVal.int IntKind.i64 (takeW (Wk.mk (0 : Int) (OpD.mk (0 : Int) (0 : Int)
  (0 : Int) (0 : Int) false (0 : Int) (0 : Int)) false (0 : Int) (List.take s l) (0 : Int) [] (0 : Int) [] (0 : Int) [] [] (0 : Int) (0 : Int) (0 : Int) (0 : Int) (0 : Int)
  (0 : Int) (0 : Int) (0 : Int) (0 : Int) (0 : Int) (0 : Int) [] (0 : Int) (0 : Int) false)).fst.b) (AVal.int IntKind.i64 (takeW (Wk.mk (0 : Int) (OpD.mk (0 : Int) (0 :
  Int) (0 : Int) (0 : Int) false (0 : Int) (0 : Int)) false (0 : Int) (List.take s l) (0 : Int) [] (0 : Int) [] (0 : Int) [] [] (0 : Int) (0 : Int) (0 : Int) (0 : Int) (0 :
  Int) (0 : Int) (0 : Int) (0 : Int) (0 : Int) (0 : Int) (0 : Int) [] (0 : Int) (0 : Int) false)).fst.b) ∧ EqA (AVal.int IntKind.i64 (takeW (Wk.mk (0 : Int) (OpD.mk (0 :
  Int) (0 : Int) (0 : Int) (0 : Int) false (0 : Int) (0 : Int)) false (0 : Int) (List.take s l) (0 : Int) [] (0 : Int) [] (0 : Int) [] [] (0 : Int) (0 : Int) (0 : Int) (0 :
  Int) (0 : Int) (0 : Int) (0 : Int) (0 : Int) (0 : Int) (0 : Int) (0 : Int) [] (0 : Int) (0 : Int) false)).fst.k) (AVal.int IntKind.i64 (takeW (Wk.mk (0 : Int) (OpD.mk (0
  : Int) (0 : Int) (0 : Int) (0 : Int) false (0 : Int) (0 : Int)) false (0 : Int) (List.take s l) (0 : Int) [] (0 : Int) [] (0 : Int) [] [] (0 : Int) (0 : Int) (0 : Int) (0
  : Int) (0 : Int) (0 : Int) (0 : Int) (0 : Int) (0 : Int) (0 : Int) (0 : Int) [] (0 : Int) (0 : Int) false)).fst.k) ∧ EqA (AVal.int IntKind.i64 (takeW (Wk.mk (0 : Int)
  (OpD.mk (0 : Int) (0 : Int) (0 : Int) (0 : Int) false (0 : Int) (0 : Int)) false (0 : Int) (List.take s l) (0 : Int) [] (0 : Int) [] (0 : Int) [] [] (0 : Int) (0 : Int)
  (0 : Int) (0 : Int) (0 : Int) (0 : Int) (0 : Int) (0 : Int) (0 : Int) (0 : Int) (0 : Int) [] (0 : Int) (0 : Int) false)).fst.i) (AVal.int IntKind.i64 (takeW (Wk.mk (0 :
  Int) (OpD.mk (0 : Int) (0 : Int) (0 : Int) (0 : Int) false (0 : Int) (0 : Int)) false (0 : Int) (List.take s l) (0 : Int) [] (0 : Int) [] (0 : Int) [] [] (0 : Int) (0 :
  Int) (0 : Int) (0 : Int) (0 : Int) (0 : Int) (0 : Int) (0 : Int) (0 : Int) (0 : Int) (0 : Int) [] (0 : Int) (0 : Int) false)).fst.i) ∧ EqA (AVal.int IntKind.i64 (takeW
  (Wk.mk (0 : Int) (OpD.mk (0 : Int) (0 : Int) (0 : Int) (0 : Int) false (0 : Int) (0 : Int)) false (0 : Int) (List.take s l) (0 : Int) [] (0 : Int) [] (0 : Int) [] [] (0 :
  Int) (0 : Int) (0 : Int) (0 : Int) (0 : Int) (0 : Int) (0 : Int) (0 : Int) (0 : Int) (0 : Int) (0 : Int) [] (0 : Int) (0 : Int) false)).fst.c) (AVal.int IntKind.i64
  (takeW (Wk.mk (0 : Int) (OpD.mk (0 : Int) (0 : Int) (0 : Int) (0 : Int) false (0 : Int) (0 : Int)) false (0 : Int) (List.take s l) (0 : Int) [] (0 : Int) [] (0 : Int) []
  [] (0 : Int) (0 : Int) (0 : Int) (0 : Int) (0 : Int) (0 : Int) (0 : Int) (0 : Int) (0 : Int) (0 : Int) (0 : Int) [] (0 : Int) (0 : Int) false)).fst.c) ∧ EqA (AVal.int
  IntKind.i64 (takeW (Wk.mk (0 : Int) (OpD.mk (0 : Int) (0 : Int) (0 : Int) (0 : Int) false (0 : Int) (0 : Int)) false (0 : Int) (List.take s l) (0 : Int) [] (0 : Int) []
  (0 : Int) [] [] (0 : Int) (0 : Int) (0 : Int) (0 : Int) (0 : Int) (0 : Int) (0 : Int) (0 : Int) (0 : Int) (0 : Int) (0 : Int) [] (0 : Int) (0 : Int) false)).fst.bor)
  (AVal.int IntKind.i64 (takeW (Wk.mk (0 : Int) (OpD.mk (0 : Int) (0 : Int) (0 : Int) (0 : Int) false (0 : Int) (0 : Int)) false (0 : Int) (List.take s l) (0 : Int) [] (0 :
  Int) [] (0 : Int) [] [] (0 : Int) (0 : Int) (0 : Int) (0 : Int) (0 : Int) (0 : Int) (0 : Int) (0 : Int) (0 : Int) (0 : Int) (0 : Int) [] (0 : Int) (0 : Int)
  false)).fst.bor) ∧ EqA (AVal.int IntKind.u64 (takeW (Wk.mk (0 : Int) (OpD.mk (0 : Int) (0 : Int) (0 : Int) (0 : Int) false (0 : Int) (0 : Int)) false (0 : Int) (List.take
  s l) (0 : Int) [] (0 : Int) [] (0 : Int) [] [] (0 : Int) (0 : Int) (0 : Int) (0 : Int) (0 : Int) (0 : Int) (0 : Int) (0 : Int) (0 : Int) (0 : Int) (0 : Int) [] (0 : Int)
  (0 : Int) false)).fst.h) (AVal.int IntKind.u64 (takeW (Wk.mk (0 : Int) (OpD.mk (0 : Int) (0 : Int) (0 : Int) (0 : Int) false (0 : Int) (0 : Int)) false (0 : Int)
  (List.take s l) (0 : Int) [] (0 : Int) [] (0 : Int) [] [] (0 : Int) (0 : Int) (0 : Int) (0 : Int) (0 : Int) (0 : Int) (0 : Int) (0 : Int) (0 : Int) (0 : Int) (0 : Int) []
  (0 : Int) (0 : Int) false)).fst.h) ∧ EqA (AVal.int IntKind.u64 (takeW (Wk.mk (0 : Int) (OpD.mk (0 : Int) (0 : Int) (0 : Int) (0 : Int) false (0 : Int) (0 : Int)) false (0
  : Int) (List.take s l) (0 : Int) [] (0 : Int) [] (0 : Int) [] [] (0 : Int) (0 : Int) (0 : Int) (0 : Int) (0 : Int) (0 : Int) (0 : Int) (0 : Int) (0 : Int) (0 : Int) (0 :
  Int) [] (0 : Int) (0 : Int) false)).fst.n) (AVal.int IntKind.u64 (takeW (Wk.mk (0 : Int) (OpD.mk (0 : Int) (0 : Int) (0 : Int) (0 : Int) false (0 : Int) (0 : Int)) false
  (0 : Int) (List.take s l) (0 : Int) [] (0 : Int) [] (0 : Int) [] [] (0 : Int) (0 : Int) (0 : Int) (0 : Int) (0 : Int) (0 : Int) (0 : Int) (0 : Int) (0 : Int) (0 : Int) (0
  : Int) [] (0 : Int) (0 : Int) false)).fst.n) ∧ EqA (AVal.int IntKind.u64 (takeW (Wk.mk (0 : Int) (OpD.mk (0 : Int) (0 : Int) (0 : Int) (0 : Int) false (0 : Int) (0 :
  Int)) false (0 : Int) (List.take s l) (0 : Int) [] (0 : Int) [] (0 : Int) [] [] (0 : Int) (0 : Int) (0 : Int) (0 : Int) (0 : Int) (0 : Int) (0 : Int) (0 : Int) (0 : Int)
  (0 : Int) (0 : Int) [] (0 : Int) (0 : Int) false)).fst.v) (AVal.int IntKind.u64 (takeW (Wk.mk (0 : Int) (OpD.mk (0 : Int) (0 : Int) (0 : Int) (0 : Int) false (0 : Int) (0
  : Int)) false (0 : Int) (List.take s l) (0 : Int) [] (0 : Int) [] (0 : Int) [] [] (0 : Int) (0 : Int) (0 : Int) (0 : Int) (0 : Int) (0 : Int) (0 : Int) (0 : Int) (0 :
  Int) (0 : Int) (0 : Int) [] (0 : Int) (0 : Int) false)).fst.v) ∧ EqA (AVal.int IntKind.u64 (takeW (Wk.mk (0 : Int) (OpD.mk (0 : Int) (0 : Int) (0 : Int) (0 : Int) false
  (0 : Int) (0 : Int)) false (0 : Int) (List.take s l) (0 : Int) [] (0 : Int) [] (0 : Int) [] [] (0 : Int) (0 : Int) (0 : Int) (0 : Int) (0 : Int) (0 : Int) (0 : Int) (0 :
  Int) (0 : Int) (0 : Int) (0 : Int) [] (0 : Int) (0 : Int) false)).fst.u) (AVal.int IntKind.u64 (takeW (Wk.mk (0 : Int) (OpD.mk (0 : Int) (0 : Int) (0 : Int) (0 : Int)
  false (0 : Int) (0 : Int)) false (0 : Int) (List.take s l) (0 : Int) [] (0 : Int) [] (0 : Int) [] [] (0 : Int) (0 : Int) (0 : Int) (0 : Int) (0 : Int) (0 : Int) (0 : Int)
  (0 : Int) (0 : Int) (0 : Int) (0 : Int) [] (0 : Int) (0 : Int) false)).fst.u) ∧ EqA (AVal.int IntKind.u64 (takeW (Wk.mk (0 : Int) (OpD.mk (0 : Int) (0 : Int) (0 : Int) (0
  : Int) false (0 : Int) (0 : Int)) false (0 : Int) (List.take s l) (0 : Int) [] (0 : Int) [] (0 : Int) [] [] (0 : Int) (0 : Int) (0 : Int) (0 : Int) (0 : Int) (0 : Int) (0
  : Int) (0 : Int) (0 : Int) (0 : Int) (0 : Int) [] (0 : Int) (0 : Int) false)).fst.g) (AVal.int IntKind.u64 (takeW (Wk.mk (0 : Int) (OpD.mk (0 : Int) (0 : Int) (0 : Int)
  (0 : Int) false (0 : Int) (0 : Int)) false (0 : Int) (List.take s l) (0 : Int) [] (0 : Int) [] (0 : Int) [] [] (0 : Int) (0 : Int) (0 : Int) (0 : Int) (0 : Int) (0 : Int)
  (0 : Int) (0 : Int) (0 : Int) (0 : Int) (0 : Int) [] (0 : Int) (0 : Int) false)).fst.g) ∧ EqA (AVal.int IntKind.i64 (takeW (Wk.mk (0 : Int) (OpD.mk (0 : Int) (0 : Int) (0
  : Int) (0 : Int) false (0 : Int) (0 : Int)) false (0 : Int) (List.take s l) (0 : Int) [] (0 : Int) [] (0 : Int) [] [] (0 : Int) (0 : Int) (0 : Int) (0 : Int) (0 : Int) (0
  : Int) (0 : Int) (0 : Int) (0 : Int) (0 : Int) (0 : Int) [] (0 : Int) (0 : Int) false)).fst.j) (AVal.int IntKind.i64 (takeW (Wk.mk (0 : Int) (OpD.mk (0 : Int) (0 : Int)
  (0 : Int) (0 : Int) false (0 : Int) (0 : Int)) false (0 : Int) (List.take s l) (0 : Int) [] (0 : Int) [] (0 : Int) [] [] (0 : Int) (0 : Int) (0 : Int) (0 : Int) (0 : Int)
  (0 : Int) (0 : Int) (0 : Int) (0 : Int) (0 : Int) (0 : Int) [] (0 : Int) (0 : Int) false)).fst.j) ∧ EqA (AVal.list (22 : Nat) (takeW (Wk.mk (0 : Int) (OpD.mk (0 : Int) (0
  : Int) (0 : Int) (0 : Int) false (0 : Int) (0 : Int)) false (0 : Int) (List.take s l) (0 : Int) [] (0 : Int) [] (0 : Int) [] [] (0 : Int) (0 : Int) (0 : Int) (0 : Int) (0
  : Int) (0 : Int) (0 : Int) (0 : Int) (0 : Int) (0 : Int) (0 : Int) [] (0 : Int) (0 : Int) false)).fst.read) (AVal.list (22 : Nat) (takeW (Wk.mk (0 : Int) (OpD.mk (0 :
  Int) (0 : Int) (0 : Int) (0 : Int) false (0 : Int) (0 : Int)) false (0 : Int) (List.take s l) (0 : Int) [] (0 : Int) [] (0 : Int) [] [] (0 : Int) (0 : Int) (0 : Int) (0 :
  Int) (0 : Int) (0 : Int) (0 : Int) (0 : Int) (0 : Int) (0 : Int) (0 : Int) [] (0 : Int) (0 : Int) false)).fst.read) ∧ EqA (AVal.int IntKind.u64 (takeW (Wk.mk (0 : Int)
  (OpD.mk (0 : Int) (0 : Int) (0 : Int) (0 : Int) false (0 : Int) (0 : Int)) false (0 : Int) (List.take s l) (0 : Int) [] (0 : Int) [] (0 : Int) [] [] (0 : Int) (0 : Int)
  (0 : Int) (0 : Int) (0 : Int) (0 : Int) (0 : Int) (0 : Int) (0 : Int) (0 : Int) (0 : Int) [] (0 : Int) (0 : Int) false)).fst.t) (AVal.int IntKind.u64 (takeW (Wk.mk (0 :
  Int) (OpD.mk (0 : Int) (0 : Int) (0 : Int) (0 : Int) false (0 : Int) (0 : Int)) false (0 : Int) (List.take s l) (0 : Int) [] (0 : Int) [] (0 : Int) [] [] (0 : Int) (0 :
  Int) (0 : Int) (0 : Int) (0 : Int) (0 : Int) (0 : Int) (0 : Int) (0 : Int) (0 : Int) (0 : Int) [] (0 : Int) (0 : Int) false)).fst.t) ∧ EqA (AVal.int IntKind.i64 (takeW
  (Wk.mk (0 : Int) (OpD.mk (0 : Int) (0 : Int) (0 : Int) (0 : Int) false (0 : Int) (0 : Int)) false (0 : Int) (List.take s l) (0 : Int) [] (0 : Int) [] (0 : Int) [] [] (0 :
  Int) (0 : Int) (0 : Int) (0 : Int) (0 : Int) (0 : Int) (0 : Int) (0 : Int) (0 : Int) (0 : Int) (0 : Int) [] (0 : Int) (0 : Int) false)).fst.ret) (AVal.int IntKind.i64
  (takeW (Wk.mk (0 : Int) (OpD.mk (0 : Int) (0 : Int) (0 : Int) (0 : Int) false (0 : Int) (0 : Int)) false (0 : Int) (List.take s l) (0 : Int) [] (0 : Int) [] (0 : Int) []
  [] (0 : Int) (0 : Int) (0 : Int) (0 : Int) (0 : Int) (0 : Int) (0 : Int) (0 : Int) (0 : Int) (0 : Int) (0 : Int) [] (0 : Int) (0 : Int) false)).fst.ret) ∧ EqA (AVal.bool
  (takeW (Wk.mk (0 : Int) (OpD.mk (0 : Int) (0 : Int) (0 : Int) (0 : Int) false (0 : Int) (0 : Int)) false (0 : Int) (List.take s l) (0 : Int) [] (0 : Int) [] (0 : Int) []
  [] (0 : Int) (0 : Int) (0 : Int) (0 : Int) (0 : Int) (0 : Int) (0 : Int) (0 : Int) (0 : Int) (0 : Int) (0 : Int) [] (0 : Int) (0 : Int) false)).fst.give) (AVal.bool
  (takeW (Wk.mk (0 : Int) (OpD.mk (0 : Int) (0 : Int) (0 : Int) (0 : Int) false (0 : Int) (0 : Int)) false (0 : Int) (List.take s l) (0 : Int) [] (0 : Int) [] (0 : Int) []
  [] (0 : Int) (0 : Int) (0 : Int) (0 : Int) (0 : Int) (0 : Int) (0 : Int) (0 : Int) (0 : Int) (0 : Int) (0 : Int) [] (0 : Int) (0 : Int) false)).fst.give) ∧ True) ∧ True)
  ∧ True)) (Bear (Wk.mk (0 : Int) (OpD.mk (0 : Int) (0 : Int) (0 : Int) (0 : Int) false (0 : Int) (0 : Int)) false (0 : Int) [] (0 : Int) [] (0 : Int) [] (0 : Int) []
  (List.drop s_1 l) (0 : Int) (0 : Int) (0 : Int) (0 : Int) (0 : Int) (0 : Int) (0 : Int) (0 : Int) (0 : Int) (0 : Int) (0 : Int) [] (0 : Int) (0 : Int) false) ∧ K
  (AVal.bool ((nextW (Wk.mk (0 : Int) (OpD.mk (0 : Int) (0 : Int) (0 : Int) (0 : Int) false (0 : Int) (0 : Int)) false (0 : Int) [] (0 : Int) [] (0 : Int) [] (0 : Int) []
  (List.drop s_1 l) (0 : Int) (0 : Int) (0 : Int) (0 : Int) (0 : Int) (0 : Int) (0 : Int) (0 : Int) (0 : Int) (0 : Int) (0 : Int) [] (0 : Int) (0 : Int) false)).snd == (-1
  : Int))))))))) := by kernel_rfl

end Go.Proofs.Ytggaecdhgbdilaa
