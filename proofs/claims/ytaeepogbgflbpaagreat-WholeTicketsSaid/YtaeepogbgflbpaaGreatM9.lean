/- Parts of the proof, in one file: further parts. No condition. -/
import Derived.Test.YtaeepogbgflbpaaGreatM8

/- The law on tickets: how its loops are told. No condition. -/
section
set_option linter.unusedVariables false
set_option linter.unusedSimpArgs false
set_option maxRecDepth 100000
set_option maxHeartbeats 1000000
namespace Go.Proofs.YtaeepogbgflbpaaGreat
open Go Go.Ax

noncomputable def ΓT3 : FuncId → Option (GSpec El) := addΓ (addΓ (addΓ (addΓ noΓ 5 gAwake) 6 gPlay) 7 gTold) 8 (said aCU fun y => .bool (goodB y.1 y.2))
theorem ΓT3_ok : ∀ f g, ΓT3 f = some g → GOk cx f g := addΓ_ok (addΓ_ok (addΓ_ok (addΓ_ok noΓ_ok ok5) ok6) ok7) ok8
/-- The set of some tickets. -/
def seenM (l : List Int) : List (Int × Bool) := l.foldl (fun m t => setM m t true) []
noncomputable def specTick (x : Cfg) (h : Hl) : Nat → Option (St El → LSpec El) := addSpec (addSpec noSpec
  8 fun st => { σ := Nat, slots := fun i => [(9, .int .i64 i)], res := fun i => [(mapOf st 8, .mapS .u64 4 (seenM (allT h i)))], inv := fun i => (i : Int) ≤ x.w, meas := fun i => x.w.toNat - i })
  12 fun st => withNum st 9 fun i => { σ := Nat, slots := fun j => [(11, .int .i64 j)], res := fun j => [(mapOf st 8, .mapS .u64 4 (seenM (allT h i ++ (toldH h i).take j)))], inv := fun j => j ≤ (toldH h i).length, meas := fun j => (toldH h i).length - j }
end Go.Proofs.YtaeepogbgflbpaaGreat
end

/- The law on tickets: what the row's function computes, printed. No condition. -/
section
set_option linter.unusedVariables false
set_option linter.unusedSimpArgs false
set_option maxRecDepth 100000
set_option maxHeartbeats 4000000
namespace Go.Proofs.YtaeepogbgflbpaaGreat
open Go Go.Ax

theorem vc_tickets (K : AVal El → Prop) (x : Cfg) (load : List (List OpD)) (p : List Int) : aexecF cnd cx ΓT3 (specTick x (playH (x, load, p))) 100 Tryz.f3 (codeOf Tryz.f3) (aCLP.enc (x, load, p)) []
  (fun y _ => K y) = ( True ∧ (playB (x, load, p) = true → List.length p ≤ (1000 : Nat) ∧ ∀ (i : Nat), i < List.length p → Fine (stR (newH (x, load)) p i) ∧ (isW (stR (newH (x, load)) p i) (List.getD p
  i (0 : Int)) = true → ((wrAt (stR (newH (x, load)) p i) (List.getD p i (0 : Int))).x.give = false ∧ (wrAt (stR (newH (x, load)) p i) (List.getD p i (0 : Int))).x.line ∈ linesF ∨ (wrAt (stR (newH (x,
  load)) p i) (List.getD p i (0 : Int))).x.give = true ∧ (wrAt (stR (newH (x, load)) p i) (List.getD p i (0 : Int))).x.line ∈ linesT) ∨ (wrAt (stR (newH (x, load)) p i) (List.getD p i (0 : Int))).x.line
  = (0 : Int))) ∧ cnd (playB (x, load, p)) ((∃ (s0 : Nat), (↑s0 : Int) ≤ x.w ∧ (EqA (AVal.int .i64 0) (AVal.int .i64 (↑s0 : Int)) ∧ True) ∧ (EqR (Res.cells 24 [AVal.int .i64 x.w, AVal.int .i64 x.s,
  AVal.int .i64 x.b, AVal.int .i64 x.o, AVal.int .i64 x.e, AVal.int .i64 x.r, AVal.int .i64 x.a, AVal.int .u64 x.l]) (Res.cells 24 [AVal.int .i64 x.w, AVal.int .i64 x.s, AVal.int .i64 x.b, AVal.int .i64
  x.o, AVal.int .i64 x.e, AVal.int .i64 x.r, AVal.int .i64 x.a, AVal.int .u64 x.l]) ∧ EqR (Res.cells 63 [AVal.ptr 2 0, AVal.vec 3, AVal.vec 4, AVal.int .i64 (playH (x, load, p)).tick]) (Res.cells 63
  [AVal.ptr 2 0, AVal.vec 3, AVal.vec 4, AVal.int .i64 (playH (x, load, p)).tick]) ∧ EqR (Res.cells 103 [AVal.int .i64 (playH (x, load, p)).m.c.w, AVal.int .i64 (playH (x, load, p)).m.c.s, AVal.int .i64
  (playH (x, load, p)).m.c.b, AVal.int .i64 (playH (x, load, p)).m.c.o, AVal.int .i64 (playH (x, load, p)).m.c.e, AVal.int .i64 (playH (x, load, p)).m.c.r, AVal.int .i64 (playH (x, load, p)).m.c.a,
  AVal.int .u64 (playH (x, load, p)).m.c.l, AVal.int .i64 (playH (x, load, p)).m.seen.kind, AVal.int .i64 (playH (x, load, p)).m.seen.at_, AVal.int .u64 (playH (x, load, p)).m.seen.x, AVal.int .u64
  (playH (x, load, p)).m.seen.y, AVal.int .u64 (playH (x, load, p)).m.seen.old, AVal.vec 5]) (Res.cells 103 [AVal.int .i64 (playH (x, load, p)).m.c.w, AVal.int .i64 (playH (x, load, p)).m.c.s, AVal.int
  .i64 (playH (x, load, p)).m.c.b, AVal.int .i64 (playH (x, load, p)).m.c.o, AVal.int .i64 (playH (x, load, p)).m.c.e, AVal.int .i64 (playH (x, load, p)).m.c.r, AVal.int .i64 (playH (x, load, p)).m.c.a,
  AVal.int .u64 (playH (x, load, p)).m.c.l, AVal.int .i64 (playH (x, load, p)).m.seen.kind, AVal.int .i64 (playH (x, load, p)).m.seen.at_, AVal.int .u64 (playH (x, load, p)).m.seen.x, AVal.int .u64
  (playH (x, load, p)).m.seen.y, AVal.int .u64 (playH (x, load, p)).m.seen.old, AVal.vec 5]) ∧ (EqR (Res.recs 59 (playH (x, load, p)).l 35 []) (Res.recs 59 (playH (x, load, p)).l 35 []) ∧ ([AVal.vec 6,
  AVal.vec 7, AVal.vec 8, AVal.vec 9, AVal.vec 10, AVal.vec 11, AVal.vec 12, AVal.vec 13] : List (AVal El)) = [AVal.vec 6, AVal.vec 7, AVal.vec 8, AVal.vec 9, AVal.vec 10, AVal.vec 11, AVal.vec 12,
  AVal.vec 13]) ∧ EqR (Res.vec 45 (playH (x, load, p)).ev) (Res.vec 45 (playH (x, load, p)).ev) ∧ EqR (Res.vec 22 (playH (x, load, p)).m.ws) (Res.vec 22 (playH (x, load, p)).m.ws) ∧ EqR (Res.vec 22
  (playH (x, load, p)).told.t0) (Res.vec 22 (playH (x, load, p)).told.t0) ∧ EqR (Res.vec 22 (playH (x, load, p)).told.t1) (Res.vec 22 (playH (x, load, p)).told.t1) ∧ EqR (Res.vec 22 (playH (x, load,
  p)).told.t2) (Res.vec 22 (playH (x, load, p)).told.t2) ∧ EqR (Res.vec 22 (playH (x, load, p)).told.t3) (Res.vec 22 (playH (x, load, p)).told.t3) ∧ EqR (Res.vec 22 (playH (x, load, p)).told.t4)
  (Res.vec 22 (playH (x, load, p)).told.t4) ∧ EqR (Res.vec 22 (playH (x, load, p)).told.t5) (Res.vec 22 (playH (x, load, p)).told.t5) ∧ EqR (Res.vec 22 (playH (x, load, p)).told.t6) (Res.vec 22 (playH
  (x, load, p)).told.t6) ∧ EqR (Res.vec 22 (playH (x, load, p)).told.t7) (Res.vec 22 (playH (x, load, p)).told.t7) ∧ EqR (Res.mapS .u64 4 []) (Res.mapS .u64 4 (seenM (allT (playH (x, load, p)) s0))) ∧
  True) ∧ True) ∧ ∀ (s : Nat), (↑s : Int) ≤ x.w → cnd (decide ((↑s : Int) < x.w)) ((List.length (playH (x, load, p)).l ≤ (8 : Nat) ∧ ∀ (w : Int), List.length (getT (playH (x, load, p)).told w) ≤ (60000
  : Nat)) ∧ (∃ (s0 : Nat), s0 ≤ List.length (toldH (playH (x, load, p)) (↑(Int.toNat (↑s : Int)) : Int)) ∧ (EqA (AVal.int .i64 0) (AVal.int .i64 (↑s0 : Int)) ∧ True) ∧ (EqR (Res.cells 24 [AVal.int .i64
  x.w, AVal.int .i64 x.s, AVal.int .i64 x.b, AVal.int .i64 x.o, AVal.int .i64 x.e, AVal.int .i64 x.r, AVal.int .i64 x.a, AVal.int .u64 x.l]) (Res.cells 24 [AVal.int .i64 x.w, AVal.int .i64 x.s, AVal.int
  .i64 x.b, AVal.int .i64 x.o, AVal.int .i64 x.e, AVal.int .i64 x.r, AVal.int .i64 x.a, AVal.int .u64 x.l]) ∧ EqR (Res.cells 63 [AVal.ptr 2 0, AVal.vec 3, AVal.vec 4, AVal.int .i64 (playH (x, load,
  p)).tick]) (Res.cells 63 [AVal.ptr 2 0, AVal.vec 3, AVal.vec 4, AVal.int .i64 (playH (x, load, p)).tick]) ∧ EqR (Res.cells 103 [AVal.int .i64 (playH (x, load, p)).m.c.w, AVal.int .i64 (playH (x, load,
  p)).m.c.s, AVal.int .i64 (playH (x, load, p)).m.c.b, AVal.int .i64 (playH (x, load, p)).m.c.o, AVal.int .i64 (playH (x, load, p)).m.c.e, AVal.int .i64 (playH (x, load, p)).m.c.r, AVal.int .i64 (playH
  (x, load, p)).m.c.a, AVal.int .u64 (playH (x, load, p)).m.c.l, AVal.int .i64 (playH (x, load, p)).m.seen.kind, AVal.int .i64 (playH (x, load, p)).m.seen.at_, AVal.int .u64 (playH (x, load,
  p)).m.seen.x, AVal.int .u64 (playH (x, load, p)).m.seen.y, AVal.int .u64 (playH (x, load, p)).m.seen.old, AVal.vec 5]) (Res.cells 103 [AVal.int .i64 (playH (x, load, p)).m.c.w, AVal.int .i64 (playH
  (x, load, p)).m.c.s, AVal.int .i64 (playH (x, load, p)).m.c.b, AVal.int .i64 (playH (x, load, p)).m.c.o, AVal.int .i64 (playH (x, load, p)).m.c.e, AVal.int .i64 (playH (x, load, p)).m.c.r, AVal.int
  .i64 (playH (x, load, p)).m.c.a, AVal.int .u64 (playH (x, load, p)).m.c.l, AVal.int .i64 (playH (x, load, p)).m.seen.kind, AVal.int .i64 (playH (x, load, p)).m.seen.at_, AVal.int .u64 (playH (x, load,
  p)).m.seen.x, AVal.int .u64 (playH (x, load, p)).m.seen.y, AVal.int .u64 (playH (x, load, p)).m.seen.old, AVal.vec 5]) ∧ (EqR (Res.recs 59 (playH (x, load, p)).l 35 []) (Res.recs 59 (playH (x, load,
  p)).l 35 []) ∧ ([AVal.vec 6, AVal.vec 7, AVal.vec 8, AVal.vec 9, AVal.vec 10, AVal.vec 11, AVal.vec 12, AVal.vec 13] : List (AVal El)) = [AVal.vec 6, AVal.vec 7, AVal.vec 8, AVal.vec 9, AVal.vec 10,
  AVal.vec 11, AVal.vec 12, AVal.vec 13]) ∧ EqR (Res.vec 45 (playH (x, load, p)).ev) (Res.vec 45 (playH (x, load, p)).ev) ∧ EqR (Res.vec 22 (playH (x, load, p)).m.ws) (Res.vec 22 (playH (x, load,
  p)).m.ws) ∧ EqR (Res.vec 22 (playH (x, load, p)).told.t0) (Res.vec 22 (playH (x, load, p)).told.t0) ∧ EqR (Res.vec 22 (playH (x, load, p)).told.t1) (Res.vec 22 (playH (x, load, p)).told.t1) ∧ EqR
  (Res.vec 22 (playH (x, load, p)).told.t2) (Res.vec 22 (playH (x, load, p)).told.t2) ∧ EqR (Res.vec 22 (playH (x, load, p)).told.t3) (Res.vec 22 (playH (x, load, p)).told.t3) ∧ EqR (Res.vec 22 (playH
  (x, load, p)).told.t4) (Res.vec 22 (playH (x, load, p)).told.t4) ∧ EqR (Res.vec 22 (playH (x, load, p)).told.t5) (Res.vec 22 (playH (x, load, p)).told.t5) ∧ EqR (Res.vec 22 (playH (x, load,
  p)).told.t6) (Res.vec 22 (playH (x, load, p)).told.t6) ∧ EqR (Res.vec 22 (playH (x, load, p)).told.t7) (Res.vec 22 (playH (x, load, p)).told.t7) ∧ EqR (Res.mapS .u64 4 (seenM (allT (playH (x, load,
  p)) s))) (Res.mapS .u64 4 (seenM (allT (playH (x, load, p)) (Int.toNat (↑s : Int)) ++ List.take s0 (toldH (playH (x, load, p)) (↑(Int.toNat (↑s : Int)) : Int))))) ∧ True) ∧ True) ∧ ∀ (s_1 : Nat), s_1
  ≤ List.length (toldH (playH (x, load, p)) (↑(Int.toNat (↑s : Int)) : Int)) → cnd (decide ((↑s_1 : Int) < (↑(List.length (toldH (playH (x, load, p)) (↑s : Int))) : Int))) (((0 : Int) ≤ (↑s_1 : Int) ∧
  (↑s_1 : Int) < (↑(List.length (toldH (playH (x, load, p)) (↑s : Int))) : Int)) ∧ cnd (getM (seenM (allT (playH (x, load, p)) (Int.toNat (↑s : Int)) ++ List.take s_1 (toldH (playH (x, load, p))
  (↑(Int.toNat (↑s : Int)) : Int)))) (List.getD (toldH (playH (x, load, p)) (↑s : Int)) (Int.toNat (↑s_1 : Int)) (0 : Int)) (YtaeepogbgflbpaaGreat.K.dflt (tab (4 : TypeId))) == false) (((0 : Int) ≤
  (↑s_1 : Int) ∧ (↑s_1 : Int) < (↑(List.length (toldH (playH (x, load, p)) (↑s : Int))) : Int)) ∧ True ∧ cnd (!goodB x (List.getD (toldH (playH (x, load, p)) (↑s : Int)) (Int.toNat (↑s_1 : Int)) (0 :
  Int))) (K (AVal.bool false)) (((0 : Int) ≤ (↑s_1 : Int) ∧ (↑s_1 : Int) < (↑(List.length (toldH (playH (x, load, p)) (↑s : Int))) : Int)) ∧ ∃ (s' : Nat), s' ≤ List.length (toldH (playH (x, load, p))
  (↑(Int.toNat (↑s : Int)) : Int)) ∧ List.length (toldH (playH (x, load, p)) (↑(Int.toNat (↑s : Int)) : Int)) - s' < List.length (toldH (playH (x, load, p)) (↑(Int.toNat (↑s : Int)) : Int)) - s_1 ∧ (EqA
  (AVal.int .i64 (wr ((↑s_1 : Int) + (1 : Int)))) (AVal.int .i64 (↑s' : Int)) ∧ True) ∧ (EqR (Res.cells 24 [AVal.int .i64 x.w, AVal.int .i64 x.s, AVal.int .i64 x.b, AVal.int .i64 x.o, AVal.int .i64 x.e,
  AVal.int .i64 x.r, AVal.int .i64 x.a, AVal.int .u64 x.l]) (Res.cells 24 [AVal.int .i64 x.w, AVal.int .i64 x.s, AVal.int .i64 x.b, AVal.int .i64 x.o, AVal.int .i64 x.e, AVal.int .i64 x.r, AVal.int .i64
  x.a, AVal.int .u64 x.l]) ∧ EqR (Res.cells 63 [AVal.ptr 2 0, AVal.vec 3, AVal.vec 4, AVal.int .i64 (playH (x, load, p)).tick]) (Res.cells 63 [AVal.ptr 2 0, AVal.vec 3, AVal.vec 4, AVal.int .i64 (playH
  (x, load, p)).tick]) ∧ EqR (Res.cells 103 [AVal.int .i64 (playH (x, load, p)).m.c.w, AVal.int .i64 (playH (x, load, p)).m.c.s, AVal.int .i64 (playH (x, load, p)).m.c.b, AVal.int .i64 (playH (x, load,
  p)).m.c.o, AVal.int .i64 (playH (x, load, p)).m.c.e, AVal.int .i64 (playH (x, load, p)).m.c.r, AVal.int .i64 (playH (x, load, p)).m.c.a, AVal.int .u64 (playH (x, load, p)).m.c.l, AVal.int .i64 (playH
  (x, load, p)).m.seen.kind, AVal.int .i64 (playH (x, load, p)).m.seen.at_, AVal.int .u64 (playH (x, load, p)).m.seen.x, AVal.int .u64 (playH (x, load, p)).m.seen.y, AVal.int .u64 (playH (x, load,
  p)).m.seen.old, AVal.vec 5]) (Res.cells 103 [AVal.int .i64 (playH (x, load, p)).m.c.w, AVal.int .i64 (playH (x, load, p)).m.c.s, AVal.int .i64 (playH (x, load, p)).m.c.b, AVal.int .i64 (playH (x,
  load, p)).m.c.o, AVal.int .i64 (playH (x, load, p)).m.c.e, AVal.int .i64 (playH (x, load, p)).m.c.r, AVal.int .i64 (playH (x, load, p)).m.c.a, AVal.int .u64 (playH (x, load, p)).m.c.l, AVal.int .i64
  (playH (x, load, p)).m.seen.kind, AVal.int .i64 (playH (x, load, p)).m.seen.at_, AVal.int .u64 (playH (x, load, p)).m.seen.x, AVal.int .u64 (playH (x, load, p)).m.seen.y, AVal.int .u64 (playH (x,
  load, p)).m.seen.old, AVal.vec 5]) ∧ (EqR (Res.recs 59 (playH (x, load, p)).l 35 []) (Res.recs 59 (playH (x, load, p)).l 35 []) ∧ ([AVal.vec 6, AVal.vec 7, AVal.vec 8, AVal.vec 9, AVal.vec 10,
  AVal.vec 11, AVal.vec 12, AVal.vec 13] : List (AVal El)) = [AVal.vec 6, AVal.vec 7, AVal.vec 8, AVal.vec 9, AVal.vec 10, AVal.vec 11, AVal.vec 12, AVal.vec 13]) ∧ EqR (Res.vec 45 (playH (x, load,
  p)).ev) (Res.vec 45 (playH (x, load, p)).ev) ∧ EqR (Res.vec 22 (playH (x, load, p)).m.ws) (Res.vec 22 (playH (x, load, p)).m.ws) ∧ EqR (Res.vec 22 (playH (x, load, p)).told.t0) (Res.vec 22 (playH (x,
  load, p)).told.t0) ∧ EqR (Res.vec 22 (playH (x, load, p)).told.t1) (Res.vec 22 (playH (x, load, p)).told.t1) ∧ EqR (Res.vec 22 (playH (x, load, p)).told.t2) (Res.vec 22 (playH (x, load, p)).told.t2) ∧
  EqR (Res.vec 22 (playH (x, load, p)).told.t3) (Res.vec 22 (playH (x, load, p)).told.t3) ∧ EqR (Res.vec 22 (playH (x, load, p)).told.t4) (Res.vec 22 (playH (x, load, p)).told.t4) ∧ EqR (Res.vec 22
  (playH (x, load, p)).told.t5) (Res.vec 22 (playH (x, load, p)).told.t5) ∧ EqR (Res.vec 22 (playH (x, load, p)).told.t6) (Res.vec 22 (playH (x, load, p)).told.t6) ∧ EqR (Res.vec 22 (playH (x, load,
  p)).told.t7) (Res.vec 22 (playH (x, load, p)).told.t7) ∧ EqR (Res.mapS .u64 4 (setM (seenM (allT (playH (x, load, p)) (Int.toNat (↑s : Int)) ++ List.take s_1 (toldH (playH (x, load, p)) (↑(Int.toNat
  (↑s : Int)) : Int)))) (List.getD (toldH (playH (x, load, p)) (↑s : Int)) (Int.toNat (↑s_1 : Int)) (0 : Int)) true)) (Res.mapS .u64 4 (seenM (allT (playH (x, load, p)) (Int.toNat (↑s : Int)) ++
  List.take s' (toldH (playH (x, load, p)) (↑(Int.toNat (↑s : Int)) : Int))))) ∧ True) ∧ True)) (K (AVal.bool false))) (∃ (s' : Nat), (↑s' : Int) ≤ x.w ∧ Int.toNat x.w - s' < Int.toNat x.w - s ∧ (EqA
  (AVal.int .i64 (wr ((↑s : Int) + (1 : Int)))) (AVal.int .i64 (↑s' : Int)) ∧ True) ∧ (EqR (Res.cells 24 [AVal.int .i64 x.w, AVal.int .i64 x.s, AVal.int .i64 x.b, AVal.int .i64 x.o, AVal.int .i64 x.e,
  AVal.int .i64 x.r, AVal.int .i64 x.a, AVal.int .u64 x.l]) (Res.cells 24 [AVal.int .i64 x.w, AVal.int .i64 x.s, AVal.int .i64 x.b, AVal.int .i64 x.o, AVal.int .i64 x.e, AVal.int .i64 x.r, AVal.int .i64
  x.a, AVal.int .u64 x.l]) ∧ EqR (Res.cells 63 [AVal.ptr 2 0, AVal.vec 3, AVal.vec 4, AVal.int .i64 (playH (x, load, p)).tick]) (Res.cells 63 [AVal.ptr 2 0, AVal.vec 3, AVal.vec 4, AVal.int .i64 (playH
  (x, load, p)).tick]) ∧ EqR (Res.cells 103 [AVal.int .i64 (playH (x, load, p)).m.c.w, AVal.int .i64 (playH (x, load, p)).m.c.s, AVal.int .i64 (playH (x, load, p)).m.c.b, AVal.int .i64 (playH (x, load,
  p)).m.c.o, AVal.int .i64 (playH (x, load, p)).m.c.e, AVal.int .i64 (playH (x, load, p)).m.c.r, AVal.int .i64 (playH (x, load, p)).m.c.a, AVal.int .u64 (playH (x, load, p)).m.c.l, AVal.int .i64 (playH
  (x, load, p)).m.seen.kind, AVal.int .i64 (playH (x, load, p)).m.seen.at_, AVal.int .u64 (playH (x, load, p)).m.seen.x, AVal.int .u64 (playH (x, load, p)).m.seen.y, AVal.int .u64 (playH (x, load,
  p)).m.seen.old, AVal.vec 5]) (Res.cells 103 [AVal.int .i64 (playH (x, load, p)).m.c.w, AVal.int .i64 (playH (x, load, p)).m.c.s, AVal.int .i64 (playH (x, load, p)).m.c.b, AVal.int .i64 (playH (x,
  load, p)).m.c.o, AVal.int .i64 (playH (x, load, p)).m.c.e, AVal.int .i64 (playH (x, load, p)).m.c.r, AVal.int .i64 (playH (x, load, p)).m.c.a, AVal.int .u64 (playH (x, load, p)).m.c.l, AVal.int .i64
  (playH (x, load, p)).m.seen.kind, AVal.int .i64 (playH (x, load, p)).m.seen.at_, AVal.int .u64 (playH (x, load, p)).m.seen.x, AVal.int .u64 (playH (x, load, p)).m.seen.y, AVal.int .u64 (playH (x,
  load, p)).m.seen.old, AVal.vec 5]) ∧ (EqR (Res.recs 59 (playH (x, load, p)).l 35 []) (Res.recs 59 (playH (x, load, p)).l 35 []) ∧ ([AVal.vec 6, AVal.vec 7, AVal.vec 8, AVal.vec 9, AVal.vec 10,
  AVal.vec 11, AVal.vec 12, AVal.vec 13] : List (AVal El)) = [AVal.vec 6, AVal.vec 7, AVal.vec 8, AVal.vec 9, AVal.vec 10, AVal.vec 11, AVal.vec 12, AVal.vec 13]) ∧ EqR (Res.vec 45 (playH (x, load,
  p)).ev) (Res.vec 45 (playH (x, load, p)).ev) ∧ EqR (Res.vec 22 (playH (x, load, p)).m.ws) (Res.vec 22 (playH (x, load, p)).m.ws) ∧ EqR (Res.vec 22 (playH (x, load, p)).told.t0) (Res.vec 22 (playH (x,
  load, p)).told.t0) ∧ EqR (Res.vec 22 (playH (x, load, p)).told.t1) (Res.vec 22 (playH (x, load, p)).told.t1) ∧ EqR (Res.vec 22 (playH (x, load, p)).told.t2) (Res.vec 22 (playH (x, load, p)).told.t2) ∧
  EqR (Res.vec 22 (playH (x, load, p)).told.t3) (Res.vec 22 (playH (x, load, p)).told.t3) ∧ EqR (Res.vec 22 (playH (x, load, p)).told.t4) (Res.vec 22 (playH (x, load, p)).told.t4) ∧ EqR (Res.vec 22
  (playH (x, load, p)).told.t5) (Res.vec 22 (playH (x, load, p)).told.t5) ∧ EqR (Res.vec 22 (playH (x, load, p)).told.t6) (Res.vec 22 (playH (x, load, p)).told.t6) ∧ EqR (Res.vec 22 (playH (x, load,
  p)).told.t7) (Res.vec 22 (playH (x, load, p)).told.t7) ∧ EqR (Res.mapS .u64 4 (seenM (allT (playH (x, load, p)) (Int.toNat (↑s : Int)) ++ List.take s_1 (toldH (playH (x, load, p)) (↑(Int.toNat (↑s :
  Int)) : Int))))) (Res.mapS .u64 4 (seenM (allT (playH (x, load, p)) s'))) ∧ True) ∧ True)) (K (AVal.bool true))) (K (AVal.bool true))) := by kernel_rfl

end Go.Proofs.YtaeepogbgflbpaaGreat
end
