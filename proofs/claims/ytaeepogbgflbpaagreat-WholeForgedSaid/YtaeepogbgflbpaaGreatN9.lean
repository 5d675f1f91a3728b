/- Parts of the proof, in one file: further parts. No condition. -/
import Derived.Test.YtaeepogbgflbpaaGreatM8

/- The law on forged tickets: how its loop is told. No condition. -/
section
set_option linter.unusedVariables false
set_option linter.unusedSimpArgs false
set_option maxRecDepth 100000
set_option maxHeartbeats 1000000
namespace Go.Proofs.YtaeepogbgflbpaaGreat
open Go Go.Ax

noncomputable def ΓT4 : FuncId → Option (GSpec El) := addΓ (addΓ (addΓ noΓ 5 gAwake) 6 gPlay) 9 gEvents
theorem ΓT4_ok : ∀ f g, ΓT4 f = some g → GOk cx f g := addΓ_ok (addΓ_ok (addΓ_ok noΓ_ok ok5) ok6) ok9
/-- The event, held twice. -/
def boxA (e : Ev) : Prop := (True ∧ EqA (AVal.int IntKind.i64 e.tick) (AVal.int IntKind.i64 e.tick) ∧ EqA (AVal.int IntKind.i64 e.worker) (AVal.int IntKind.i64
  e.worker) ∧ EqA (AVal.int IntKind.i64 e.n) (AVal.int IntKind.i64 e.n) ∧ EqA (AVal.int IntKind.i64 e.kind) (AVal.int IntKind.i64 e.kind) ∧ EqA (AVal.int
  IntKind.i64 e.ans.op.k) (AVal.int IntKind.i64 e.ans.op.k) ∧ EqA (AVal.int IntKind.u64 e.ans.op.t) (AVal.int IntKind.u64 e.ans.op.t) ∧ EqA (AVal.int IntKind.u64
  e.ans.op.x) (AVal.int IntKind.u64 e.ans.op.x) ∧ EqA (AVal.int IntKind.i64 e.ans.op.s) (AVal.int IntKind.i64 e.ans.op.s) ∧ EqA (AVal.bool e.ans.op.u) (AVal.bool
  e.ans.op.u) ∧ EqA (AVal.int IntKind.i64 e.ans.op.b) (AVal.int IntKind.i64 e.ans.op.b) ∧ EqA (AVal.int IntKind.i64 e.ans.op.n) (AVal.int IntKind.i64 e.ans.op.n)
  ∧ EqA (AVal.int IntKind.u64 e.ans.t) (AVal.int IntKind.u64 e.ans.t) ∧ EqA (AVal.int IntKind.i64 e.ans.ret) (AVal.int IntKind.i64 e.ans.ret) ∧ EqA (AVal.list (22
  : Nat) e.ans.read) (AVal.list (22 : Nat) e.ans.read) ∧ EqA (AVal.int IntKind.i64 e.line) (AVal.int IntKind.i64 e.line) ∧ EqA (AVal.int IntKind.i64 e.acc.kind)
  (AVal.int IntKind.i64 e.acc.kind) ∧ EqA (AVal.int IntKind.i64 e.acc.at_) (AVal.int IntKind.i64 e.acc.at_) ∧ EqA (AVal.int IntKind.u64 e.acc.x) (AVal.int
  IntKind.u64 e.acc.x) ∧ EqA (AVal.int IntKind.u64 e.acc.y) (AVal.int IntKind.u64 e.acc.y) ∧ EqA (AVal.int IntKind.u64 e.acc.old) (AVal.int IntKind.u64 e.acc.old)
  ∧ True)
def boxB (e : Ev) : Prop := (True ∧ EqA (AVal.int IntKind.i64 e.ans.op.k) (AVal.int IntKind.i64 e.ans.op.k) ∧ EqA (AVal.int IntKind.u64 e.ans.op.t) (AVal.int
  IntKind.u64 e.ans.op.t) ∧ EqA (AVal.int IntKind.u64 e.ans.op.x) (AVal.int IntKind.u64 e.ans.op.x) ∧ EqA (AVal.int IntKind.i64 e.ans.op.s) (AVal.int IntKind.i64
  e.ans.op.s) ∧ EqA (AVal.bool e.ans.op.u) (AVal.bool e.ans.op.u) ∧ EqA (AVal.int IntKind.i64 e.ans.op.b) (AVal.int IntKind.i64 e.ans.op.b) ∧ EqA (AVal.int
  IntKind.i64 e.ans.op.n) (AVal.int IntKind.i64 e.ans.op.n) ∧ EqA (AVal.int IntKind.u64 e.ans.t) (AVal.int IntKind.u64 e.ans.t) ∧ EqA (AVal.int IntKind.i64
  e.ans.ret) (AVal.int IntKind.i64 e.ans.ret) ∧ EqA (AVal.list (22 : Nat) e.ans.read) (AVal.list (22 : Nat) e.ans.read) ∧ True)
theorem boxA_ok (e : Ev) : boxA e := by unfold boxA; simp
theorem boxB_ok (e : Ev) : boxB e := by unfold boxB; simp
noncomputable def specForge (h : Hl) : Nat → Option (St El → LSpec El) := addSpec (addSpec (addSpec (addSpec (addSpec (addSpec (addSpec (addSpec noSpec
  1007 fun st => { σ := Unit, slots := fun _ => [(8, .mapr (lenR st.res)), (9, .mapr (lenR st.res + 1))], res := fun _ => appU (fixEv st (ptrOf st 7)) [(lenR st.res, .mapS .u64 4 []), (lenR st.res + 1, .mapS .u64 4 [])], inv := fun _ => True, meas := fun _ => 0, fresh := [.slot 8, .slot 9] })
  1008 fun st => { σ := Unit, slots := fun _ => [(24, .list 45 h.ev), (25, .int .i64 h.ev.length), (26, .int .i64 0)], res := fun _ => dropN [mapOf st 8, mapOf st 9] 0 st.res, inv := fun _ => True, meas := fun _ => 0 })
  8 fun st => { σ := Nat, slots := fun i => [(26, .int .i64 i)], res := fun i => [(mapOf st 8, .mapS .u64 4 (toldE (h.ev.take i))), (mapOf st 9, .mapS .u64 4 (freedE (h.ev.take i)))], inv := fun i => i ≤ h.ev.length, meas := fun i => h.ev.length - i })
  1012 fun st => withNum st 26 fun i => { σ := Unit, slots := fun _ => [(45, .bool (isAl (evAt h i)))], res := fun _ => [], inv := fun _ => True, meas := fun _ => 0 })
  1013 fun st => withNum st 26 fun i => { σ := Unit, slots := fun _ => [], res := fun _ => [(mapOf st 8, .mapS .u64 4 (tStep (toldE (h.ev.take i)) (evAt h i)))], inv := fun _ => True, meas := fun _ => 0 })
  1014 fun st => withNum st 26 fun i => { σ := Unit, slots := fun _ => [], res := fun _ => [], inv := fun _ => skipB (evAt h i) = false, meas := fun _ => 0 })
  1015 fun st => withNum st 26 fun i => { σ := Unit, slots := fun _ => [(106, .bool (badB (getM (tStep (toldE (h.ev.take i)) (evAt h i)) (evAt h i).ans.t false) (evAt h i)))], res := fun _ => [], inv := fun _ => True, meas := fun _ => 0 })
  1017 fun st => withNum st 26 fun i => { σ := Unit, slots := fun _ => [(115, .bool (isFr (evAt h i)))], res := fun _ => [], inv := fun _ => True, meas := fun _ => 0 }
end Go.Proofs.YtaeepogbgflbpaaGreat
end

/- The law on forged tickets: what the row's function computes, printed. No condition. -/
section
set_option linter.unusedVariables false
set_option linter.unusedSimpArgs false
set_option maxRecDepth 100000
set_option maxHeartbeats 4000000
namespace Go.Proofs.YtaeepogbgflbpaaGreat
open Go Go.Ax

theorem vc_forged (K : AVal El → Prop) (x : Cfg) (load : List (List OpD)) (p : List Int) : aexecF cnd cx ΓT4 (specForge (playH (x, load, p))) 100 Tryz.f4 (codeOf Tryz.f4) (aCLP.enc (x, load, p)) []
  (fun y _ => K y) = ( True ∧ (playB (x, load, p) = true → List.length p ≤ (1000 : Nat) ∧ ∀ (i : Nat), i < List.length p → Fine (stR (newH (x, load)) p i) ∧ (isW (stR (newH (x, load)) p i) (List.getD p
  i (0 : Int)) = true → ((wrAt (stR (newH (x, load)) p i) (List.getD p i (0 : Int))).x.give = false ∧ (wrAt (stR (newH (x, load)) p i) (List.getD p i (0 : Int))).x.line ∈ linesF ∨ (wrAt (stR (newH (x,
  load)) p i) (List.getD p i (0 : Int))).x.give = true ∧ (wrAt (stR (newH (x, load)) p i) (List.getD p i (0 : Int))).x.line ∈ linesT) ∨ (wrAt (stR (newH (x, load)) p i) (List.getD p i (0 : Int))).x.line
  = (0 : Int))) ∧ cnd (playB (x, load, p)) ((∃ (s0 : Unit), True ∧ (True ∧ True ∧ True) ∧ (EqR (Res.cells 24 [AVal.int .i64 x.w, AVal.int .i64 x.s, AVal.int .i64 x.b, AVal.int .i64 x.o, AVal.int .i64
  x.e, AVal.int .i64 x.r, AVal.int .i64 x.a, AVal.int .u64 x.l]) (Res.cells 24 [AVal.int .i64 x.w, AVal.int .i64 x.s, AVal.int .i64 x.b, AVal.int .i64 x.o, AVal.int .i64 x.e, AVal.int .i64 x.r, AVal.int
  .i64 x.a, AVal.int .u64 x.l]) ∧ (True ∧ True ∧ True ∧ EqR (Res.vec 45 (playH (x, load, p)).ev) (Res.vec 45 (playH (x, load, p)).ev) ∧ EqA (AVal.int .i64 (playH (x, load, p)).tick) (AVal.int .i64
  (playH (x, load, p)).tick) ∧ True) ∧ EqR (Res.cells 103 [AVal.int .i64 (playH (x, load, p)).m.c.w, AVal.int .i64 (playH (x, load, p)).m.c.s, AVal.int .i64 (playH (x, load, p)).m.c.b, AVal.int .i64
  (playH (x, load, p)).m.c.o, AVal.int .i64 (playH (x, load, p)).m.c.e, AVal.int .i64 (playH (x, load, p)).m.c.r, AVal.int .i64 (playH (x, load, p)).m.c.a, AVal.int .u64 (playH (x, load, p)).m.c.l,
  AVal.int .i64 (playH (x, load, p)).m.seen.kind, AVal.int .i64 (playH (x, load, p)).m.seen.at_, AVal.int .u64 (playH (x, load, p)).m.seen.x, AVal.int .u64 (playH (x, load, p)).m.seen.y, AVal.int .u64
  (playH (x, load, p)).m.seen.old, AVal.vec 5]) (Res.cells 103 [AVal.int .i64 (playH (x, load, p)).m.c.w, AVal.int .i64 (playH (x, load, p)).m.c.s, AVal.int .i64 (playH (x, load, p)).m.c.b, AVal.int
  .i64 (playH (x, load, p)).m.c.o, AVal.int .i64 (playH (x, load, p)).m.c.e, AVal.int .i64 (playH (x, load, p)).m.c.r, AVal.int .i64 (playH (x, load, p)).m.c.a, AVal.int .u64 (playH (x, load, p)).m.c.l,
  AVal.int .i64 (playH (x, load, p)).m.seen.kind, AVal.int .i64 (playH (x, load, p)).m.seen.at_, AVal.int .u64 (playH (x, load, p)).m.seen.x, AVal.int .u64 (playH (x, load, p)).m.seen.y, AVal.int .u64
  (playH (x, load, p)).m.seen.old, AVal.vec 5]) ∧ (EqR (Res.recs 59 (playH (x, load, p)).l 35 []) (Res.recs 59 (playH (x, load, p)).l 35 []) ∧ ([AVal.vec 6, AVal.vec 7, AVal.vec 8, AVal.vec 9, AVal.vec
  10, AVal.vec 11, AVal.vec 12, AVal.vec 13] : List (AVal El)) = [AVal.vec 6, AVal.vec 7, AVal.vec 8, AVal.vec 9, AVal.vec 10, AVal.vec 11, AVal.vec 12, AVal.vec 13]) ∧ EqR (Res.vec 22 (playH (x, load,
  p)).m.ws) (Res.vec 22 (playH (x, load, p)).m.ws) ∧ EqR (Res.vec 22 (playH (x, load, p)).told.t0) (Res.vec 22 (playH (x, load, p)).told.t0) ∧ EqR (Res.vec 22 (playH (x, load, p)).told.t1) (Res.vec 22
  (playH (x, load, p)).told.t1) ∧ EqR (Res.vec 22 (playH (x, load, p)).told.t2) (Res.vec 22 (playH (x, load, p)).told.t2) ∧ EqR (Res.vec 22 (playH (x, load, p)).told.t3) (Res.vec 22 (playH (x, load,
  p)).told.t3) ∧ EqR (Res.vec 22 (playH (x, load, p)).told.t4) (Res.vec 22 (playH (x, load, p)).told.t4) ∧ EqR (Res.vec 22 (playH (x, load, p)).told.t5) (Res.vec 22 (playH (x, load, p)).told.t5) ∧ EqR
  (Res.vec 22 (playH (x, load, p)).told.t6) (Res.vec 22 (playH (x, load, p)).told.t6) ∧ EqR (Res.vec 22 (playH (x, load, p)).told.t7) (Res.vec 22 (playH (x, load, p)).told.t7) ∧ EqR (Res.mapS .u64 4 [])
  (Res.mapS .u64 4 []) ∧ EqR (Res.mapS .u64 4 []) (Res.mapS .u64 4 []) ∧ True) ∧ True) ∧ ∀ (s : Unit), True → ((List.length (playH (x, load, p)).ev ≤ (100000 : Nat) ∧ ∀ (e : Ev), e ∈ (playH (x, load,
  p)).ev → small e.ans.read) ∧ ∃ (s0 : Unit), True ∧ (EqA (AVal.list 45 (playH (x, load, p)).ev) (AVal.list 45 (playH (x, load, p)).ev) ∧ EqA (AVal.int .i64 (↑(List.length (playH (x, load, p)).ev) :
  Int)) (AVal.int .i64 (↑(List.length (playH (x, load, p)).ev) : Int)) ∧ EqA (AVal.int .i64 0) (AVal.int .i64 0) ∧ True) ∧ (EqR (Res.mapS .u64 4 []) (Res.mapS .u64 4 []) ∧ EqR (Res.mapS .u64 4 [])
  (Res.mapS .u64 4 []) ∧ True) ∧ True) ∧ ∀ (s : Unit), True → (∃ (s0 : Nat), s0 ≤ List.length (playH (x, load, p)).ev ∧ (EqA (AVal.int .i64 0) (AVal.int .i64 (↑s0 : Int)) ∧ True) ∧ (EqR (Res.mapS .u64 4
  []) (Res.mapS .u64 4 (toldE (List.take s0 (playH (x, load, p)).ev))) ∧ EqR (Res.mapS .u64 4 []) (Res.mapS .u64 4 (freedE (List.take s0 (playH (x, load, p)).ev))) ∧ True) ∧ True) ∧ ∀ (s : Nat), s ≤
  List.length (playH (x, load, p)).ev → cnd (decide ((↑s : Int) < (↑(List.length (playH (x, load, p)).ev) : Int))) (((0 : Int) ≤ (↑s : Int) ∧ (↑s : Int) < (↑(List.length (playH (x, load, p)).ev) : Int))
  ∧ (cnd (((evAt (playH (x, load, p)) (Int.toNat (↑s : Int))).kind == (3 : Int)) == true) (cnd (((evAt (playH (x, load, p)) (Int.toNat (↑s : Int))).ans.op.k == (3 : Int)) == true) (∃ (s0 : Unit), True ∧
  (EqA (AVal.bool ((evAt (playH (x, load, p)) (Int.toNat (↑s : Int))).ans.ret == (0 : Int))) (AVal.bool (isAl (evAt (playH (x, load, p)) (Int.toNat (↑s : Int))))) ∧ True) ∧ (EqR (Res.mapS .u64 4 (toldE
  (List.take s (playH (x, load, p)).ev))) (Res.mapS .u64 4 (toldE (List.take s (playH (x, load, p)).ev))) ∧ EqR (Res.mapS .u64 4 (freedE (List.take s (playH (x, load, p)).ev))) (Res.mapS .u64 4 (freedE
  (List.take s (playH (x, load, p)).ev))) ∧ boxA (evAt (playH (x, load, p)) (Int.toNat (↑s : Int))) ∧ boxB (evAt (playH (x, load, p)) (Int.toNat (↑s : Int))) ∧ True) ∧ True) (∃ (s0 : Unit), True ∧ (EqA
  (AVal.bool false) (AVal.bool (isAl (evAt (playH (x, load, p)) (Int.toNat (↑s : Int))))) ∧ True) ∧ (EqR (Res.mapS .u64 4 (toldE (List.take s (playH (x, load, p)).ev))) (Res.mapS .u64 4 (toldE
  (List.take s (playH (x, load, p)).ev))) ∧ EqR (Res.mapS .u64 4 (freedE (List.take s (playH (x, load, p)).ev))) (Res.mapS .u64 4 (freedE (List.take s (playH (x, load, p)).ev))) ∧ boxA (evAt (playH (x,
  load, p)) (Int.toNat (↑s : Int))) ∧ boxB (evAt (playH (x, load, p)) (Int.toNat (↑s : Int))) ∧ True) ∧ True)) (∃ (s0 : Unit), True ∧ (EqA (AVal.bool false) (AVal.bool (isAl (evAt (playH (x, load, p))
  (Int.toNat (↑s : Int))))) ∧ True) ∧ (EqR (Res.mapS .u64 4 (toldE (List.take s (playH (x, load, p)).ev))) (Res.mapS .u64 4 (toldE (List.take s (playH (x, load, p)).ev))) ∧ EqR (Res.mapS .u64 4 (freedE
  (List.take s (playH (x, load, p)).ev))) (Res.mapS .u64 4 (freedE (List.take s (playH (x, load, p)).ev))) ∧ boxA (evAt (playH (x, load, p)) (Int.toNat (↑s : Int))) ∧ boxB (evAt (playH (x, load, p))
  (Int.toNat (↑s : Int))) ∧ True) ∧ True) ∧ ∀ (s_1 : Unit), True → cnd (isAl (evAt (playH (x, load, p)) (Int.toNat (↑s : Int)))) (∃ (s0 : Unit), True ∧ True ∧ (EqR (Res.mapS .u64 4 (setM (toldE
  (List.take s (playH (x, load, p)).ev)) (evAt (playH (x, load, p)) (Int.toNat (↑s : Int))).ans.t true)) (Res.mapS .u64 4 (tStep (toldE (List.take (Int.toNat (↑s : Int)) (playH (x, load, p)).ev)) (evAt
  (playH (x, load, p)) (Int.toNat (↑s : Int))))) ∧ EqR (Res.mapS .u64 4 (freedE (List.take s (playH (x, load, p)).ev))) (Res.mapS .u64 4 (freedE (List.take s (playH (x, load, p)).ev))) ∧ boxA (evAt
  (playH (x, load, p)) (Int.toNat (↑s : Int))) ∧ boxB (evAt (playH (x, load, p)) (Int.toNat (↑s : Int))) ∧ True) ∧ True) (∃ (s0 : Unit), True ∧ True ∧ (EqR (Res.mapS .u64 4 (toldE (List.take s (playH
  (x, load, p)).ev))) (Res.mapS .u64 4 (tStep (toldE (List.take (Int.toNat (↑s : Int)) (playH (x, load, p)).ev)) (evAt (playH (x, load, p)) (Int.toNat (↑s : Int))))) ∧ EqR (Res.mapS .u64 4 (freedE
  (List.take s (playH (x, load, p)).ev))) (Res.mapS .u64 4 (freedE (List.take s (playH (x, load, p)).ev))) ∧ boxA (evAt (playH (x, load, p)) (Int.toNat (↑s : Int))) ∧ boxB (evAt (playH (x, load, p))
  (Int.toNat (↑s : Int))) ∧ True) ∧ True)) ∧ ∀ (s_1 : Unit), True → cnd (((evAt (playH (x, load, p)) (Int.toNat (↑s : Int))).kind != (4 : Int)) == false) (cnd (((evAt (playH (x, load, p)) (Int.toNat (↑s
  : Int))).ans.op.k != (4 : Int)) == true) (cnd (((evAt (playH (x, load, p)) (Int.toNat (↑s : Int))).ans.op.k != (5 : Int)) == true) (cnd ((evAt (playH (x, load, p)) (Int.toNat (↑s : Int))).ans.op.k !=
  (6 : Int)) (∃ (s' : Nat), s' ≤ List.length (playH (x, load, p)).ev ∧ List.length (playH (x, load, p)).ev - s' < List.length (playH (x, load, p)).ev - s ∧ (EqA (AVal.int .i64 (wr ((↑s : Int) + (1 :
  Int)))) (AVal.int .i64 (↑s' : Int)) ∧ True) ∧ (EqR (Res.mapS .u64 4 (tStep (toldE (List.take (Int.toNat (↑s : Int)) (playH (x, load, p)).ev)) (evAt (playH (x, load, p)) (Int.toNat (↑s : Int)))))
  (Res.mapS .u64 4 (toldE (List.take s' (playH (x, load, p)).ev))) ∧ EqR (Res.mapS .u64 4 (freedE (List.take s (playH (x, load, p)).ev))) (Res.mapS .u64 4 (freedE (List.take s' (playH (x, load,
  p)).ev))) ∧ True) ∧ True) (∃ (s0 : Unit), skipB (evAt (playH (x, load, p)) (Int.toNat (↑s : Int))) = false ∧ True ∧ (EqR (Res.mapS .u64 4 (tStep (toldE (List.take (Int.toNat (↑s : Int)) (playH (x,
  load, p)).ev)) (evAt (playH (x, load, p)) (Int.toNat (↑s : Int))))) (Res.mapS .u64 4 (tStep (toldE (List.take (Int.toNat (↑s : Int)) (playH (x, load, p)).ev)) (evAt (playH (x, load, p)) (Int.toNat (↑s
  : Int))))) ∧ EqR (Res.mapS .u64 4 (freedE (List.take s (playH (x, load, p)).ev))) (Res.mapS .u64 4 (freedE (List.take s (playH (x, load, p)).ev))) ∧ boxA (evAt (playH (x, load, p)) (Int.toNat (↑s :
  Int))) ∧ boxB (evAt (playH (x, load, p)) (Int.toNat (↑s : Int))) ∧ True) ∧ True)) (∃ (s0 : Unit), skipB (evAt (playH (x, load, p)) (Int.toNat (↑s : Int))) = false ∧ True ∧ (EqR (Res.mapS .u64 4 (tStep
  (toldE (List.take (Int.toNat (↑s : Int)) (playH (x, load, p)).ev)) (evAt (playH (x, load, p)) (Int.toNat (↑s : Int))))) (Res.mapS .u64 4 (tStep (toldE (List.take (Int.toNat (↑s : Int)) (playH (x,
  load, p)).ev)) (evAt (playH (x, load, p)) (Int.toNat (↑s : Int))))) ∧ EqR (Res.mapS .u64 4 (freedE (List.take s (playH (x, load, p)).ev))) (Res.mapS .u64 4 (freedE (List.take s (playH (x, load,
  p)).ev))) ∧ boxA (evAt (playH (x, load, p)) (Int.toNat (↑s : Int))) ∧ boxB (evAt (playH (x, load, p)) (Int.toNat (↑s : Int))) ∧ True) ∧ True)) (∃ (s0 : Unit), skipB (evAt (playH (x, load, p))
  (Int.toNat (↑s : Int))) = false ∧ True ∧ (EqR (Res.mapS .u64 4 (tStep (toldE (List.take (Int.toNat (↑s : Int)) (playH (x, load, p)).ev)) (evAt (playH (x, load, p)) (Int.toNat (↑s : Int))))) (Res.mapS
  .u64 4 (tStep (toldE (List.take (Int.toNat (↑s : Int)) (playH (x, load, p)).ev)) (evAt (playH (x, load, p)) (Int.toNat (↑s : Int))))) ∧ EqR (Res.mapS .u64 4 (freedE (List.take s (playH (x, load,
  p)).ev))) (Res.mapS .u64 4 (freedE (List.take s (playH (x, load, p)).ev))) ∧ boxA (evAt (playH (x, load, p)) (Int.toNat (↑s : Int))) ∧ boxB (evAt (playH (x, load, p)) (Int.toNat (↑s : Int))) ∧ True) ∧
  True)) (∃ (s' : Nat), s' ≤ List.length (playH (x, load, p)).ev ∧ List.length (playH (x, load, p)).ev - s' < List.length (playH (x, load, p)).ev - s ∧ (EqA (AVal.int .i64 (wr ((↑s : Int) + (1 : Int))))
  (AVal.int .i64 (↑s' : Int)) ∧ True) ∧ (EqR (Res.mapS .u64 4 (tStep (toldE (List.take (Int.toNat (↑s : Int)) (playH (x, load, p)).ev)) (evAt (playH (x, load, p)) (Int.toNat (↑s : Int))))) (Res.mapS
  .u64 4 (toldE (List.take s' (playH (x, load, p)).ev))) ∧ EqR (Res.mapS .u64 4 (freedE (List.take s (playH (x, load, p)).ev))) (Res.mapS .u64 4 (freedE (List.take s' (playH (x, load, p)).ev))) ∧ True)
  ∧ True) ∧ ∀ (s_2 : Unit), skipB (evAt (playH (x, load, p)) (Int.toNat (↑s : Int))) = false → cnd ((!getM (tStep (toldE (List.take (Int.toNat (↑s : Int)) (playH (x, load, p)).ev)) (evAt (playH (x,
  load, p)) (Int.toNat (↑s : Int)))) (evAt (playH (x, load, p)) (Int.toNat (↑s : Int))).ans.t (YtaeepogbgflbpaaGreat.K.dflt (tab (4 : TypeId)))) == true) (cnd (((evAt (playH (x, load, p)) (Int.toNat (↑s
  : Int))).ans.ret != (7 : Int)) == true) (cnd (((evAt (playH (x, load, p)) (Int.toNat (↑s : Int))).ans.ret != (8 : Int)) == true) (cnd (((evAt (playH (x, load, p)) (Int.toNat (↑s : Int))).ans.ret != (5
  : Int)) == false) (cnd (((↑(List.length (evAt (playH (x, load, p)) (Int.toNat (↑s : Int))).ans.read) : Int) != (0 : Int)) == false) (cnd (((evAt (playH (x, load, p)) (Int.toNat (↑s : Int))).ans.ret ==
  (5 : Int)) == true) (∃ (s0 : Unit), True ∧ (EqA (AVal.bool ((evAt (playH (x, load, p)) (Int.toNat (↑s : Int))).ans.op.k != (5 : Int))) (AVal.bool (badB (getM (tStep (toldE (List.take (Int.toNat (↑s :
  Int)) (playH (x, load, p)).ev)) (evAt (playH (x, load, p)) (Int.toNat (↑s : Int)))) (evAt (playH (x, load, p)) (Int.toNat (↑s : Int))).ans.t false) (evAt (playH (x, load, p)) (Int.toNat (↑s : Int)))))
  ∧ True) ∧ (EqR (Res.mapS .u64 4 (tStep (toldE (List.take (Int.toNat (↑s : Int)) (playH (x, load, p)).ev)) (evAt (playH (x, load, p)) (Int.toNat (↑s : Int))))) (Res.mapS .u64 4 (tStep (toldE (List.take
  (Int.toNat (↑s : Int)) (playH (x, load, p)).ev)) (evAt (playH (x, load, p)) (Int.toNat (↑s : Int))))) ∧ EqR (Res.mapS .u64 4 (freedE (List.take s (playH (x, load, p)).ev))) (Res.mapS .u64 4 (freedE
  (List.take s (playH (x, load, p)).ev))) ∧ boxA (evAt (playH (x, load, p)) (Int.toNat (↑s : Int))) ∧ boxB (evAt (playH (x, load, p)) (Int.toNat (↑s : Int))) ∧ True) ∧ True) (∃ (s0 : Unit), True ∧ (EqA
  (AVal.bool false) (AVal.bool (badB (getM (tStep (toldE (List.take (Int.toNat (↑s : Int)) (playH (x, load, p)).ev)) (evAt (playH (x, load, p)) (Int.toNat (↑s : Int)))) (evAt (playH (x, load, p))
  (Int.toNat (↑s : Int))).ans.t false) (evAt (playH (x, load, p)) (Int.toNat (↑s : Int))))) ∧ True) ∧ (EqR (Res.mapS .u64 4 (tStep (toldE (List.take (Int.toNat (↑s : Int)) (playH (x, load, p)).ev))
  (evAt (playH (x, load, p)) (Int.toNat (↑s : Int))))) (Res.mapS .u64 4 (tStep (toldE (List.take (Int.toNat (↑s : Int)) (playH (x, load, p)).ev)) (evAt (playH (x, load, p)) (Int.toNat (↑s : Int))))) ∧
  EqR (Res.mapS .u64 4 (freedE (List.take s (playH (x, load, p)).ev))) (Res.mapS .u64 4 (freedE (List.take s (playH (x, load, p)).ev))) ∧ boxA (evAt (playH (x, load, p)) (Int.toNat (↑s : Int))) ∧ boxB
  (evAt (playH (x, load, p)) (Int.toNat (↑s : Int))) ∧ True) ∧ True)) (∃ (s0 : Unit), True ∧ (EqA (AVal.bool true) (AVal.bool (badB (getM (tStep (toldE (List.take (Int.toNat (↑s : Int)) (playH (x, load,
  p)).ev)) (evAt (playH (x, load, p)) (Int.toNat (↑s : Int)))) (evAt (playH (x, load, p)) (Int.toNat (↑s : Int))).ans.t false) (evAt (playH (x, load, p)) (Int.toNat (↑s : Int))))) ∧ True) ∧ (EqR
  (Res.mapS .u64 4 (tStep (toldE (List.take (Int.toNat (↑s : Int)) (playH (x, load, p)).ev)) (evAt (playH (x, load, p)) (Int.toNat (↑s : Int))))) (Res.mapS .u64 4 (tStep (toldE (List.take (Int.toNat (↑s
  : Int)) (playH (x, load, p)).ev)) (evAt (playH (x, load, p)) (Int.toNat (↑s : Int))))) ∧ EqR (Res.mapS .u64 4 (freedE (List.take s (playH (x, load, p)).ev))) (Res.mapS .u64 4 (freedE (List.take s
  (playH (x, load, p)).ev))) ∧ boxA (evAt (playH (x, load, p)) (Int.toNat (↑s : Int))) ∧ boxB (evAt (playH (x, load, p)) (Int.toNat (↑s : Int))) ∧ True) ∧ True)) (∃ (s0 : Unit), True ∧ (EqA (AVal.bool
  true) (AVal.bool (badB (getM (tStep (toldE (List.take (Int.toNat (↑s : Int)) (playH (x, load, p)).ev)) (evAt (playH (x, load, p)) (Int.toNat (↑s : Int)))) (evAt (playH (x, load, p)) (Int.toNat (↑s :
  Int))).ans.t false) (evAt (playH (x, load, p)) (Int.toNat (↑s : Int))))) ∧ True) ∧ (EqR (Res.mapS .u64 4 (tStep (toldE (List.take (Int.toNat (↑s : Int)) (playH (x, load, p)).ev)) (evAt (playH (x,
  load, p)) (Int.toNat (↑s : Int))))) (Res.mapS .u64 4 (tStep (toldE (List.take (Int.toNat (↑s : Int)) (playH (x, load, p)).ev)) (evAt (playH (x, load, p)) (Int.toNat (↑s : Int))))) ∧ EqR (Res.mapS .u64
  4 (freedE (List.take s (playH (x, load, p)).ev))) (Res.mapS .u64 4 (freedE (List.take s (playH (x, load, p)).ev))) ∧ boxA (evAt (playH (x, load, p)) (Int.toNat (↑s : Int))) ∧ boxB (evAt (playH (x,
  load, p)) (Int.toNat (↑s : Int))) ∧ True) ∧ True)) (cnd (((↑(List.length (evAt (playH (x, load, p)) (Int.toNat (↑s : Int))).ans.read) : Int) != (0 : Int)) == false) (cnd (((evAt (playH (x, load, p))
  (Int.toNat (↑s : Int))).ans.ret == (5 : Int)) == true) (∃ (s0 : Unit), True ∧ (EqA (AVal.bool ((evAt (playH (x, load, p)) (Int.toNat (↑s : Int))).ans.op.k != (5 : Int))) (AVal.bool (badB (getM (tStep
  (toldE (List.take (Int.toNat (↑s : Int)) (playH (x, load, p)).ev)) (evAt (playH (x, load, p)) (Int.toNat (↑s : Int)))) (evAt (playH (x, load, p)) (Int.toNat (↑s : Int))).ans.t false) (evAt (playH (x,
  load, p)) (Int.toNat (↑s : Int))))) ∧ True) ∧ (EqR (Res.mapS .u64 4 (tStep (toldE (List.take (Int.toNat (↑s : Int)) (playH (x, load, p)).ev)) (evAt (playH (x, load, p)) (Int.toNat (↑s : Int)))))
  (Res.mapS .u64 4 (tStep (toldE (List.take (Int.toNat (↑s : Int)) (playH (x, load, p)).ev)) (evAt (playH (x, load, p)) (Int.toNat (↑s : Int))))) ∧ EqR (Res.mapS .u64 4 (freedE (List.take s (playH (x,
  load, p)).ev))) (Res.mapS .u64 4 (freedE (List.take s (playH (x, load, p)).ev))) ∧ boxA (evAt (playH (x, load, p)) (Int.toNat (↑s : Int))) ∧ boxB (evAt (playH (x, load, p)) (Int.toNat (↑s : Int))) ∧
  True) ∧ True) (∃ (s0 : Unit), True ∧ (EqA (AVal.bool false) (AVal.bool (badB (getM (tStep (toldE (List.take (Int.toNat (↑s : Int)) (playH (x, load, p)).ev)) (evAt (playH (x, load, p)) (Int.toNat (↑s :
  Int)))) (evAt (playH (x, load, p)) (Int.toNat (↑s : Int))).ans.t false) (evAt (playH (x, load, p)) (Int.toNat (↑s : Int))))) ∧ True) ∧ (EqR (Res.mapS .u64 4 (tStep (toldE (List.take (Int.toNat (↑s :
  Int)) (playH (x, load, p)).ev)) (evAt (playH (x, load, p)) (Int.toNat (↑s : Int))))) (Res.mapS .u64 4 (tStep (toldE (List.take (Int.toNat (↑s : Int)) (playH (x, load, p)).ev)) (evAt (playH (x, load,
  p)) (Int.toNat (↑s : Int))))) ∧ EqR (Res.mapS .u64 4 (freedE (List.take s (playH (x, load, p)).ev))) (Res.mapS .u64 4 (freedE (List.take s (playH (x, load, p)).ev))) ∧ boxA (evAt (playH (x, load, p))
  (Int.toNat (↑s : Int))) ∧ boxB (evAt (playH (x, load, p)) (Int.toNat (↑s : Int))) ∧ True) ∧ True)) (∃ (s0 : Unit), True ∧ (EqA (AVal.bool true) (AVal.bool (badB (getM (tStep (toldE (List.take
  (Int.toNat (↑s : Int)) (playH (x, load, p)).ev)) (evAt (playH (x, load, p)) (Int.toNat (↑s : Int)))) (evAt (playH (x, load, p)) (Int.toNat (↑s : Int))).ans.t false) (evAt (playH (x, load, p))
  (Int.toNat (↑s : Int))))) ∧ True) ∧ (EqR (Res.mapS .u64 4 (tStep (toldE (List.take (Int.toNat (↑s : Int)) (playH (x, load, p)).ev)) (evAt (playH (x, load, p)) (Int.toNat (↑s : Int))))) (Res.mapS .u64
  4 (tStep (toldE (List.take (Int.toNat (↑s : Int)) (playH (x, load, p)).ev)) (evAt (playH (x, load, p)) (Int.toNat (↑s : Int))))) ∧ EqR (Res.mapS .u64 4 (freedE (List.take s (playH (x, load, p)).ev)))
  (Res.mapS .u64 4 (freedE (List.take s (playH (x, load, p)).ev))) ∧ boxA (evAt (playH (x, load, p)) (Int.toNat (↑s : Int))) ∧ boxB (evAt (playH (x, load, p)) (Int.toNat (↑s : Int))) ∧ True) ∧ True)))
  (cnd (((↑(List.length (evAt (playH (x, load, p)) (Int.toNat (↑s : Int))).ans.read) : Int) != (0 : Int)) == false) (cnd (((evAt (playH (x, load, p)) (Int.toNat (↑s : Int))).ans.ret == (5 : Int)) ==
  true) (∃ (s0 : Unit), True ∧ (EqA (AVal.bool ((evAt (playH (x, load, p)) (Int.toNat (↑s : Int))).ans.op.k != (5 : Int))) (AVal.bool (badB (getM (tStep (toldE (List.take (Int.toNat (↑s : Int)) (playH
  (x, load, p)).ev)) (evAt (playH (x, load, p)) (Int.toNat (↑s : Int)))) (evAt (playH (x, load, p)) (Int.toNat (↑s : Int))).ans.t false) (evAt (playH (x, load, p)) (Int.toNat (↑s : Int))))) ∧ True) ∧
  (EqR (Res.mapS .u64 4 (tStep (toldE (List.take (Int.toNat (↑s : Int)) (playH (x, load, p)).ev)) (evAt (playH (x, load, p)) (Int.toNat (↑s : Int))))) (Res.mapS .u64 4 (tStep (toldE (List.take
  (Int.toNat (↑s : Int)) (playH (x, load, p)).ev)) (evAt (playH (x, load, p)) (Int.toNat (↑s : Int))))) ∧ EqR (Res.mapS .u64 4 (freedE (List.take s (playH (x, load, p)).ev))) (Res.mapS .u64 4 (freedE
  (List.take s (playH (x, load, p)).ev))) ∧ boxA (evAt (playH (x, load, p)) (Int.toNat (↑s : Int))) ∧ boxB (evAt (playH (x, load, p)) (Int.toNat (↑s : Int))) ∧ True) ∧ True) (∃ (s0 : Unit), True ∧ (EqA
  (AVal.bool false) (AVal.bool (badB (getM (tStep (toldE (List.take (Int.toNat (↑s : Int)) (playH (x, load, p)).ev)) (evAt (playH (x, load, p)) (Int.toNat (↑s : Int)))) (evAt (playH (x, load, p))
  (Int.toNat (↑s : Int))).ans.t false) (evAt (playH (x, load, p)) (Int.toNat (↑s : Int))))) ∧ True) ∧ (EqR (Res.mapS .u64 4 (tStep (toldE (List.take (Int.toNat (↑s : Int)) (playH (x, load, p)).ev))
  (evAt (playH (x, load, p)) (Int.toNat (↑s : Int))))) (Res.mapS .u64 4 (tStep (toldE (List.take (Int.toNat (↑s : Int)) (playH (x, load, p)).ev)) (evAt (playH (x, load, p)) (Int.toNat (↑s : Int))))) ∧
  EqR (Res.mapS .u64 4 (freedE (List.take s (playH (x, load, p)).ev))) (Res.mapS .u64 4 (freedE (List.take s (playH (x, load, p)).ev))) ∧ boxA (evAt (playH (x, load, p)) (Int.toNat (↑s : Int))) ∧ boxB
  (evAt (playH (x, load, p)) (Int.toNat (↑s : Int))) ∧ True) ∧ True)) (∃ (s0 : Unit), True ∧ (EqA (AVal.bool true) (AVal.bool (badB (getM (tStep (toldE (List.take (Int.toNat (↑s : Int)) (playH (x, load,
  p)).ev)) (evAt (playH (x, load, p)) (Int.toNat (↑s : Int)))) (evAt (playH (x, load, p)) (Int.toNat (↑s : Int))).ans.t false) (evAt (playH (x, load, p)) (Int.toNat (↑s : Int))))) ∧ True) ∧ (EqR
  (Res.mapS .u64 4 (tStep (toldE (List.take (Int.toNat (↑s : Int)) (playH (x, load, p)).ev)) (evAt (playH (x, load, p)) (Int.toNat (↑s : Int))))) (Res.mapS .u64 4 (tStep (toldE (List.take (Int.toNat (↑s
  : Int)) (playH (x, load, p)).ev)) (evAt (playH (x, load, p)) (Int.toNat (↑s : Int))))) ∧ EqR (Res.mapS .u64 4 (freedE (List.take s (playH (x, load, p)).ev))) (Res.mapS .u64 4 (freedE (List.take s
  (playH (x, load, p)).ev))) ∧ boxA (evAt (playH (x, load, p)) (Int.toNat (↑s : Int))) ∧ boxB (evAt (playH (x, load, p)) (Int.toNat (↑s : Int))) ∧ True) ∧ True))) (∃ (s0 : Unit), True ∧ (EqA (AVal.bool
  false) (AVal.bool (badB (getM (tStep (toldE (List.take (Int.toNat (↑s : Int)) (playH (x, load, p)).ev)) (evAt (playH (x, load, p)) (Int.toNat (↑s : Int)))) (evAt (playH (x, load, p)) (Int.toNat (↑s :
  Int))).ans.t false) (evAt (playH (x, load, p)) (Int.toNat (↑s : Int))))) ∧ True) ∧ (EqR (Res.mapS .u64 4 (tStep (toldE (List.take (Int.toNat (↑s : Int)) (playH (x, load, p)).ev)) (evAt (playH (x,
  load, p)) (Int.toNat (↑s : Int))))) (Res.mapS .u64 4 (tStep (toldE (List.take (Int.toNat (↑s : Int)) (playH (x, load, p)).ev)) (evAt (playH (x, load, p)) (Int.toNat (↑s : Int))))) ∧ EqR (Res.mapS .u64
  4 (freedE (List.take s (playH (x, load, p)).ev))) (Res.mapS .u64 4 (freedE (List.take s (playH (x, load, p)).ev))) ∧ boxA (evAt (playH (x, load, p)) (Int.toNat (↑s : Int))) ∧ boxB (evAt (playH (x,
  load, p)) (Int.toNat (↑s : Int))) ∧ True) ∧ True) ∧ ∀ (s_3 : Unit), True → cnd (badB (getM (tStep (toldE (List.take (Int.toNat (↑s : Int)) (playH (x, load, p)).ev)) (evAt (playH (x, load, p))
  (Int.toNat (↑s : Int)))) (evAt (playH (x, load, p)) (Int.toNat (↑s : Int))).ans.t false) (evAt (playH (x, load, p)) (Int.toNat (↑s : Int)))) (K (AVal.bool false)) (cnd (((evAt (playH (x, load, p))
  (Int.toNat (↑s : Int))).ans.op.k == (4 : Int)) == true) (∃ (s0 : Unit), True ∧ (EqA (AVal.bool ((evAt (playH (x, load, p)) (Int.toNat (↑s : Int))).ans.ret == (0 : Int))) (AVal.bool (isFr (evAt (playH
  (x, load, p)) (Int.toNat (↑s : Int))))) ∧ True) ∧ (EqR (Res.mapS .u64 4 (tStep (toldE (List.take (Int.toNat (↑s : Int)) (playH (x, load, p)).ev)) (evAt (playH (x, load, p)) (Int.toNat (↑s : Int)))))
  (Res.mapS .u64 4 (tStep (toldE (List.take (Int.toNat (↑s : Int)) (playH (x, load, p)).ev)) (evAt (playH (x, load, p)) (Int.toNat (↑s : Int))))) ∧ EqR (Res.mapS .u64 4 (freedE (List.take s (playH (x,
  load, p)).ev))) (Res.mapS .u64 4 (freedE (List.take s (playH (x, load, p)).ev))) ∧ boxA (evAt (playH (x, load, p)) (Int.toNat (↑s : Int))) ∧ boxB (evAt (playH (x, load, p)) (Int.toNat (↑s : Int))) ∧
  True) ∧ True) (∃ (s0 : Unit), True ∧ (EqA (AVal.bool false) (AVal.bool (isFr (evAt (playH (x, load, p)) (Int.toNat (↑s : Int))))) ∧ True) ∧ (EqR (Res.mapS .u64 4 (tStep (toldE (List.take (Int.toNat
  (↑s : Int)) (playH (x, load, p)).ev)) (evAt (playH (x, load, p)) (Int.toNat (↑s : Int))))) (Res.mapS .u64 4 (tStep (toldE (List.take (Int.toNat (↑s : Int)) (playH (x, load, p)).ev)) (evAt (playH (x,
  load, p)) (Int.toNat (↑s : Int))))) ∧ EqR (Res.mapS .u64 4 (freedE (List.take s (playH (x, load, p)).ev))) (Res.mapS .u64 4 (freedE (List.take s (playH (x, load, p)).ev))) ∧ boxA (evAt (playH (x,
  load, p)) (Int.toNat (↑s : Int))) ∧ boxB (evAt (playH (x, load, p)) (Int.toNat (↑s : Int))) ∧ True) ∧ True) ∧ ∀ (s_4 : Unit), True → cnd (isFr (evAt (playH (x, load, p)) (Int.toNat (↑s : Int)))) (cnd
  (getM (freedE (List.take s (playH (x, load, p)).ev)) (evAt (playH (x, load, p)) (Int.toNat (↑s : Int))).ans.t (YtaeepogbgflbpaaGreat.K.dflt (tab (4 : TypeId)))) (K (AVal.bool false)) (∃ (s' : Nat), s'
  ≤ List.length (playH (x, load, p)).ev ∧ List.length (playH (x, load, p)).ev - s' < List.length (playH (x, load, p)).ev - s ∧ (EqA (AVal.int .i64 (wr ((↑s : Int) + (1 : Int)))) (AVal.int .i64 (↑s' :
  Int)) ∧ True) ∧ (EqR (Res.mapS .u64 4 (tStep (toldE (List.take (Int.toNat (↑s : Int)) (playH (x, load, p)).ev)) (evAt (playH (x, load, p)) (Int.toNat (↑s : Int))))) (Res.mapS .u64 4 (toldE (List.take
  s' (playH (x, load, p)).ev))) ∧ EqR (Res.mapS .u64 4 (setM (freedE (List.take s (playH (x, load, p)).ev)) (evAt (playH (x, load, p)) (Int.toNat (↑s : Int))).ans.t true)) (Res.mapS .u64 4 (freedE
  (List.take s' (playH (x, load, p)).ev))) ∧ True) ∧ True)) (∃ (s' : Nat), s' ≤ List.length (playH (x, load, p)).ev ∧ List.length (playH (x, load, p)).ev - s' < List.length (playH (x, load, p)).ev - s ∧
  (EqA (AVal.int .i64 (wr ((↑s : Int) + (1 : Int)))) (AVal.int .i64 (↑s' : Int)) ∧ True) ∧ (EqR (Res.mapS .u64 4 (tStep (toldE (List.take (Int.toNat (↑s : Int)) (playH (x, load, p)).ev)) (evAt (playH
  (x, load, p)) (Int.toNat (↑s : Int))))) (Res.mapS .u64 4 (toldE (List.take s' (playH (x, load, p)).ev))) ∧ EqR (Res.mapS .u64 4 (freedE (List.take s (playH (x, load, p)).ev))) (Res.mapS .u64 4 (freedE
  (List.take s' (playH (x, load, p)).ev))) ∧ True) ∧ True))) (K (AVal.bool true))) (K (AVal.bool true))) := by kernel_rfl

end Go.Proofs.YtaeepogbgflbpaaGreat
end
