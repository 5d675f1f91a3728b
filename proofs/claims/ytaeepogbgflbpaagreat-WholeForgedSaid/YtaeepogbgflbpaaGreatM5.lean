/- Parts of the proof, in one file: further parts. No condition. -/
import Derived.Test.YtaeepogbgflbpaaGreatM4
import Derived.Test.YtaeepogbgflbpaaGreatRows

/- The seat's program under the symbolic executor: plain data, how its elements lie, the facts on its types. Over this program's types; no condition. -/
section
set_option linter.unusedVariables false
set_option linter.unusedSimpArgs false
namespace Go.Proofs.YtaeepogbgflbpaaGreat
open Go Go.Ax

structure OpD where
  k : Int
  t : Int
  x : Int
  s : Int
  u : Bool
  b : Int
  n : Int
structure Wk where
  line : Int
  op : OpD
  pin : Bool
  e : Int
  rack : List Int
  t0 : Int
  l0 : List Int
  t1 : Int
  l1 : List Int
  t2 : Int
  l2 : List Int
  hold : List Int
  b : Int
  k : Int
  i : Int
  c : Int
  bor : Int
  h : Int
  n : Int
  v : Int
  u : Int
  g : Int
  j : Int
  read : List Int
  t : Int
  ret : Int
  give : Bool
structure Cfg where
  w : Int
  s : Int
  b : Int
  o : Int
  e : Int
  r : Int
  a : Int
  l : Int
/-- An answer. -/
structure Ans where
  op : OpD
  t : Int
  ret : Int
  read : List Int
/-- An access. -/
structure Acc where
  kind : Int
  at_ : Int
  x : Int
  y : Int
  old : Int
/-- An event. -/
structure Ev where
  tick : Int
  worker : Int
  n : Int
  kind : Int
  ans : Ans
  line : Int
  acc : Acc
/-- A worker: state, program, next operation, tickets. -/
structure Wr where
  x : Wk
  prog : List OpD
  next : Int
structure Bnd where
  n : Int
  least : Int
  most : Int
inductive K where | none | i64 | u64 | bool | ints | words | op | ops | ev | wr | bnd
@[reducible] def K.Ty : K → Type
  | .none => Unit
  | .i64 => Int
  | .u64 => Int
  | .bool => Bool
  | .ints => List Int
  | .words => List Int
  | .op => OpD
  | .ops => List OpD
  | .ev => Ev
  | .wr => Wr
  | .bnd => Bnd
def K.sz : K → Nat
  | .none => 0
  | .op => 7
  | .ev => 20
  | .wr => 36
  | .bnd => 3
  | _ => 1
def op0 : OpD := ⟨0, 0, 0, 0, false, 0, 0⟩
def wk0 : Wk := ⟨0, op0, false, 0, [], 0, [], 0, [], 0, [], [], 0, 0, 0, 0, 0, 0, 0, 0, 0, 0, 0, [], 0, 0, false⟩
def ans0 : Ans := ⟨op0, 0, 0, []⟩
def acc0 : Acc := ⟨0, 0, 0, 0, 0⟩
def ev0 : Ev := ⟨0, 0, 0, 0, ans0, 0, acc0⟩
def wr0 : Wr := ⟨wk0, [], 0⟩
def K.dflt : (k : K) → k.Ty
  | .none => ()
  | .i64 => (0 : Int)
  | .u64 => (0 : Int)
  | .bool => false
  | .ints => ([] : List Int)
  | .words => ([] : List Int)
  | .op => op0
  | .ops => ([] : List OpD)
  | .ev => ev0
  | .wr => wr0
  | .bnd => ⟨0, 0, 0⟩
def K.known : K → Bool
  | .none => false
  | _ => true
def K.flat : K → Bool
  | .none => false
  | .ints => false
  | .words => false
  | .ops => false
  | .ev => false
  | .wr => false
  | _ => true
def K.dat : K → Bool
  | .ev => true
  | .wr => true
  | .ops => true
  | _ => false
@[reducible] def tab : TypeId → K
  | 3 => .i64
  | 4 => .bool
  | 22 => .u64
  | 26 => .ints
  | 31 => .words
  | 38 => .op
  | 39 => .i64
  | 45 => .ev
  | 48 => .ops
  | 59 => .wr
  | 85 => .bnd
  | _ => .none
@[reducible] def El : TypeId → Type := fun t => (tab t).Ty
abbrev aI : Cd El Int := .int .i64
abbrev aU : Cd El Int := .int .u64
abbrev aL : Cd El (List Int) := .list 3
abbrev aW : Cd El (List Int) := .list 22
def cdOp : Cd El OpD := .iso (.pair aI (.pair aU (.pair aU (.pair aI (.pair .bool (.pair aI aI))))))
  (fun x => ⟨x.1, x.2.1, x.2.2.1, x.2.2.2.1, x.2.2.2.2.1, x.2.2.2.2.2.1, x.2.2.2.2.2.2⟩) (fun o => (o.k, o.t, o.x, o.s, o.u, o.b, o.n)) (fun _ => rfl)
/-- Three buckets. -/
def cdBags : Cd El (Int × List Int × Int × List Int × Int × List Int) := .pair aU (.pair aL (.pair aU (.pair aL (.pair aU aL))))
def cdTail1 : Cd El (List Int × Int × Int × Int × Int × Int) := .pair aL (.pair aI (.pair aI (.pair aI (.pair aI aI))))
def cdTail2 : Cd El (Int × Int × Int × Int × Int × Int) := .pair aU (.pair aU (.pair aU (.pair aU (.pair aU aI))))
def cdTail3 : Cd El (List Int × Int × Int × Bool) := .pair aW (.pair aU (.pair aI .bool))
def cdWk0 : Cd El (Int × OpD × Bool × Int × List Int × (Int × List Int × Int × List Int × Int × List Int) × (List Int × Int × Int × Int × Int × Int) × (Int × Int × Int × Int × Int × Int) × (List Int × Int × Int × Bool)) :=
  .pair aI (.pair cdOp (.pair .bool (.pair aU (.pair aL (.pair cdBags (.pair cdTail1 (.pair cdTail2 cdTail3)))))))
def cdWk : Cd El Wk := .iso cdWk0
  (fun q => ⟨q.1, q.2.1, q.2.2.1, q.2.2.2.1, q.2.2.2.2.1, q.2.2.2.2.2.1.1, q.2.2.2.2.2.1.2.1, q.2.2.2.2.2.1.2.2.1, q.2.2.2.2.2.1.2.2.2.1, q.2.2.2.2.2.1.2.2.2.2.1, q.2.2.2.2.2.1.2.2.2.2.2, q.2.2.2.2.2.2.1.1, q.2.2.2.2.2.2.1.2.1, q.2.2.2.2.2.2.1.2.2.1, q.2.2.2.2.2.2.1.2.2.2.1, q.2.2.2.2.2.2.1.2.2.2.2.1, q.2.2.2.2.2.2.1.2.2.2.2.2, q.2.2.2.2.2.2.2.1.1, q.2.2.2.2.2.2.2.1.2.1, q.2.2.2.2.2.2.2.1.2.2.1, q.2.2.2.2.2.2.2.1.2.2.2.1, q.2.2.2.2.2.2.2.1.2.2.2.2.1, q.2.2.2.2.2.2.2.1.2.2.2.2.2, q.2.2.2.2.2.2.2.2.1, q.2.2.2.2.2.2.2.2.2.1, q.2.2.2.2.2.2.2.2.2.2.1, q.2.2.2.2.2.2.2.2.2.2.2⟩)
  (fun x => (x.line, x.op, x.pin, x.e, x.rack, (x.t0, x.l0, x.t1, x.l1, x.t2, x.l2), (x.hold, x.b, x.k, x.i, x.c, x.bor), (x.h, x.n, x.v, x.u, x.g, x.j), (x.read, x.t, x.ret, x.give))) (fun _ => rfl)
def aWk : Cd El Wk := .agg cdWk
def cdCfg : Cd El Cfg := .iso (.pair aI (.pair aI (.pair aI (.pair aI (.pair aI (.pair aI (.pair aI aU)))))))
  (fun x => ⟨x.1, x.2.1, x.2.2.1, x.2.2.2.1, x.2.2.2.2.1, x.2.2.2.2.2.1, x.2.2.2.2.2.2.1, x.2.2.2.2.2.2.2⟩) (fun c => (c.w, c.s, c.b, c.o, c.e, c.r, c.a, c.l)) (fun _ => rfl)
def aCfg : Cd El Cfg := .agg cdCfg
abbrev aOps : Cd El (List OpD) := .list 38
def cdAns : Cd El Ans := .iso (.pair cdOp (.pair aU (.pair aI aW))) (fun x => ⟨x.1, x.2.1, x.2.2.1, x.2.2.2⟩) (fun a => (a.op, a.t, a.ret, a.read)) (fun _ => rfl)
def cdAcc : Cd El Acc := .iso (.pair aI (.pair aI (.pair aU (.pair aU aU)))) (fun x => ⟨x.1, x.2.1, x.2.2.1, x.2.2.2.1, x.2.2.2.2⟩) (fun a => (a.kind, a.at_, a.x, a.y, a.old)) (fun _ => rfl)
def cdEv : Cd El Ev := .iso (.pair aI (.pair aI (.pair aI (.pair aI (.pair cdAns (.pair aI cdAcc)))))) (fun x => ⟨x.1, x.2.1, x.2.2.1, x.2.2.2.1, x.2.2.2.2.1, x.2.2.2.2.2.1, x.2.2.2.2.2.2⟩) (fun a => (a.tick, a.worker, a.n, a.kind, a.ans, a.line, a.acc)) (fun _ => rfl)
/-- A cell of which nothing is known. -/
def cdTop : Cd El Unit where
  enc _ := [.top]
  dec _ l := match l with
    | .top :: r => some ((), r)
    | _ => none
  strict l x r h := by
    split at h
    · cases h; rfl
    · cases h
  reads b l x r h L I w E vs hr := by
    split at h
    · cases h; exact hr
    · cases h
def cdWr : Cd El Wr := .iso (.pair cdWk (.pair aOps (.pair aI cdTop))) (fun x => ⟨x.1, x.2.1, x.2.2.1⟩) (fun a => (a.x, a.prog, a.next, ())) (fun _ => rfl)
def cdBnd : Cd El Bnd := .iso (.pair aI (.pair aI aI)) (fun x => ⟨x.1, x.2.1, x.2.2⟩) (fun a => (a.n, a.least, a.most)) (fun _ => rfl)
def K.cd : (k : K) → Cd El k.Ty
  | .none => .unit
  | .i64 => .int .i64
  | .u64 => .int .u64
  | .bool => .bool
  | .ints => .list 3
  | .words => .list 22
  | .op => cdOp
  | .ops => .list 38
  | .ev => cdEv
  | .wr => cdWr
  | .bnd => cdBnd
theorem K.enc_len (k : K) (x : k.Ty) : (k.cd.enc x).length = k.sz := by cases k <;> rfl
def lay : Lay El := layOf (fun t => (tab t).cd) (fun t => (tab t).sz) (fun t => (tab t).dflt) (fun t x => by
  exact K.enc_len (tab t) x)
theorem tab_known {t : TypeId} (h : (tab t).known = true) : t = 3 ∨ t = 4 ∨ t = 22 ∨ t = 26 ∨ t = 31 ∨ t = 38 ∨ t = 39 ∨ t = 45 ∨ t = 48 ∨ t = 59 ∨ t = 85 := by
  unfold tab at h
  split at h <;> first | (simp; done) | cases h
def eqT : TypeId → Option (List Bool)
  | 38 => some [true, true, true, true, false, true, true]
  | _ => none
theorem zero_agg {t : TypeId} {v : Value} {zs : List Value} (hz : (Tryz.prog.info? t).bind (·.zero) = some v) (hv : v.cells = zs.toArray) (hsz : zs.length = lay.sz t) (hone : zs.all (fun v => v.oneCell') = true)
    (hr : ∀ (I : Nat → Prop) (w : World), Reps lay I w noE (lay.enc t (lay.dflt t)) zs) :
    ∃ z, (Tryz.prog.info? t).bind (·.zero) = some z ∧ z.cells.size = lay.sz t ∧ ∀ i : Nat, i < lay.sz t → ∃ v, z.cells[i]? = some v ∧ v.oneCell' = true ∧
      ∀ (I : Nat → Prop) (w : World) (c : AVal El), (lay.enc t (lay.dflt t))[i]? = some c → Rep lay I w noE c v := by
  refine ⟨v, hz, by rw [hv, ← hsz]; simp, fun i hi => ?_⟩
  rw [← hsz] at hi
  have hg : zs[i]? = some zs[i] := List.getElem?_eq_getElem hi
  refine ⟨zs[i], by rw [hv]; simp, (List.all_eq_true.1 hone) _ (List.getElem_mem hi), fun I w c hc => (hr I w).at_ i c _ hc hg⟩
def zOp : List Value := [.int .i64 0, .int .u64 0, .int .u64 0, .int .i64 0, .bool false, .int .i64 0, .int .i64 0]
def zSl : Value := .slice none 0 0
def zWk : List Value := [.int .i64 0] ++ zOp ++ [.bool false, .int .u64 0, zSl, .int .u64 0, zSl, .int .u64 0, zSl, .int .u64 0, zSl, zSl, .int .i64 0, .int .i64 0, .int .i64 0, .int .i64 0, .int .i64 0, .int .u64 0, .int .u64 0, .int .u64 0, .int .u64 0, .int .u64 0, .int .i64 0, zSl, .int .u64 0, .int .i64 0, .bool false]
def zEv : List Value := [.int .i64 0, .int .i64 0, .int .i64 0, .int .i64 0] ++ zOp ++ [.int .u64 0, .int .i64 0, zSl, .int .i64 0, .int .i64 0, .int .i64 0, .int .u64 0, .int .u64 0, .int .u64 0]
def zWr : List Value := zWk ++ [zSl, .int .i64 0, zSl]
noncomputable def cx : Cx El where
  P := Tryz.prog
  L := lay
  split3 := true
  known t := (tab t).known
  known_ok t h := by
    rcases tab_known h with rfl | rfl | rfl | rfl | rfl | rfl | rfl | rfl | rfl | rfl | rfl <;> exact ⟨by kernel_rfl, by decide⟩
  zero_ok t h := by
    rcases tab_known h with rfl | rfl | rfl | rfl | rfl | rfl | rfl | rfl | rfl | rfl | rfl
    · exact zero_agg (zs := [.int .i64 0]) (v := .int .i64 0) (by kernel_rfl) rfl rfl rfl (fun I w => .cons .int .nil)
    · exact zero_agg (zs := [.bool false]) (v := .bool false) (by kernel_rfl) rfl rfl rfl (fun I w => .cons .bool .nil)
    · exact zero_agg (zs := [.int .u64 0]) (v := .int .u64 0) (by kernel_rfl) rfl rfl rfl (fun I w => .cons .int .nil)
    · exact zero_agg (zs := [zSl]) (v := zSl) (by kernel_rfl) rfl rfl rfl (fun I w => .cons .listNil .nil)
    · exact zero_agg (zs := [zSl]) (v := zSl) (by kernel_rfl) rfl rfl rfl (fun I w => .cons .listNil .nil)
    · exact zero_agg (zs := zOp) (v := .agg zOp.toArray) (by kernel_rfl) rfl rfl rfl (fun I w => .cons .int (.cons .int (.cons .int (.cons .int (.cons .bool (.cons .int (.cons .int .nil)))))))
    · exact zero_agg (zs := [.int .i64 0]) (v := .int .i64 0) (by kernel_rfl) rfl rfl rfl (fun I w => .cons .int .nil)
    · refine zero_agg (zs := zEv) (v := .agg zEv.toArray) (by kernel_rfl) rfl rfl rfl (fun I w => ?_)
      repeat' first | exact .nil | refine .cons .int ?_ | refine .cons .bool ?_ | refine .cons .listNil ?_
    · exact zero_agg (zs := [zSl]) (v := zSl) (by kernel_rfl) rfl rfl rfl (fun I w => .cons .listNil .nil)
    · refine zero_agg (zs := zWr) (v := .agg zWr.toArray) (by kernel_rfl) rfl rfl rfl (fun I w => ?_)
      repeat' first | exact .nil | refine .cons .int ?_ | refine .cons .bool ?_ | refine .cons .listNil ?_ | refine .cons .top ?_
    · exact zero_agg (zs := [.int .i64 0, .int .i64 0, .int .i64 0]) (v := .agg #[.int .i64 0, .int .i64 0, .int .i64 0]) (by kernel_rfl) rfl rfl rfl (fun I w => .cons .int (.cons .int (.cons .int .nil)))
  flat t := (tab t).flat
  flat_ok t h x := by
    have key : ∀ (k : K) (x : k.Ty), k.flat = true → flatL (k.cd.enc x) = true := fun k x h => by cases k <;> first | rfl | cases h
    exact key (tab t) x h
  eqT := eqT
  eq_ok t s h := by
    unfold eqT at h
    split at h
    · cases h
      exact eq_of_flat (d := 5) (by kernel_rfl) (by decide) (by kernel_rfl) Tryz.eqGuardType38
    · cases h
  mixed := by kernel_rfl
  dat t := (tab t).dat
  dat_ok t h x := by
    have key : ∀ (k : K) (x : k.Ty), k.dat = true → datL (k.cd.enc x) = true := fun k x h => by cases k <;> first | rfl | cases h
    exact key (tab t) x h
  recT t := match t with
    | 59 => some 35
    | _ => none
  recE _ := 22
  rec_ok t k h := by
    split at h
    · cases h; exact ⟨by decide, by kernel_rfl⟩
    · cases h
/-- A function's code. -/
def codeOf (f : Func) : Code := match f.body with
  | some c => c
  | none => .skip
theorem body_of {fn : Func} (h : fn.body.isSome = true) : fn.body = some (codeOf fn) := by
  unfold codeOf
  cases hb : fn.body with
  | none => rw [hb] at h; cases h
  | some c => rfl
/-- Equations over this seat's layout. -/
abbrev EqR (a b : Res El) : Prop := a = b
abbrev EqA (a b : AVal El) : Prop := a = b
abbrev EqE (a b : AVal El × List (Nat × Res El)) : Prop := a = b
def cdB : Cd El Bool := .bool
end Go.Proofs.YtaeepogbgflbpaaGreat
end

/- Tables of functions carried out in place. No condition. -/
section
set_option linter.unusedVariables false
namespace Go.Proofs.YtaeepogbgflbpaaGreat
open Go Go.Ax

noncomputable def Γt : FuncId → Option (GSpec El) := addΓ (addΓ (addΓ (addΓ (addΓ (addΓ (addΓ noΓ 70 (inl cx noΓ 200 Tryz.f70 (codeOf Tryz.f70))) 74 (inl cx noΓ 60 Tryz.f74 (codeOf Tryz.f74))) 75 (inl cx noΓ 60 Tryz.f75 (codeOf Tryz.f75))) 77 (inl cx noΓ 60 Tryz.f77 (codeOf Tryz.f77))) 82 (inl cx noΓ 60 Tryz.f82 (codeOf Tryz.f82))) 83 (inl cx noΓ 60 Tryz.f83 (codeOf Tryz.f83))) 86 (inl cx noΓ 60 Tryz.f86 (codeOf Tryz.f86))
end Go.Proofs.YtaeepogbgflbpaaGreat
end

/- What the functions of packages rack and bag compute, in plain Lean; their tables. No condition. -/
section
set_option linter.unusedVariables false
set_option linter.unusedSimpArgs false
set_option maxRecDepth 100000
namespace Go.Proofs.YtaeepogbgflbpaaGreat
open Go Go.Ax

abbrev wr (n : Int) : Int := IntKind.wrap .i64 n
theorem wr_in {n : Int} (h : -9223372036854775808 ≤ n ∧ n ≤ 9223372036854775807) : wr n = n := IntWalk.i64_in n h
def small (l : List Int) : Prop := l.length ≤ 100000
/-- All lists are of bearable length. -/
structure Bear (x : Wk) : Prop where
  rack : small x.rack
  hold : small x.hold
  read : small x.read
  l0 : small x.l0
  l1 : small x.l1
  l2 : small x.l2
def aHold : Cd El (Wk × List Int) := .pair aWk aL
def cdWB : Cd El (Wk × Bool) := .pair aWk .bool
def cdWI : Cd El (Wk × Int) := .pair aWk aI
def aPut : Cd El (Cfg × Wk × Int) := .pair aCfg (.pair aWk aI)
def aRoom : Cd El (Cfg × Wk) := .pair aCfg aWk
def aRipe : Cd El (Wk × Int) := .pair aWk aU
def putW (y : Cfg × Wk × Int) : Wk × Bool := if y.1.r ≤ (y.2.1.rack.length : Int) then (y.2.1, false) else ({ y.2.1 with rack := y.2.1.rack ++ [y.2.2] }, true)
def takeW (x : Wk) : Wk × Int := if x.rack.length = 0 then (x, -1) else ({ x with rack := x.rack.take (x.rack.length - 1) }, x.rack.getD (x.rack.length - 1) 0)
def nextW (x : Wk) : Wk × Int := if x.hold.length = 0 then (x, -1) else ({ x with hold := x.hold.drop 1 }, x.hold.getD 0 0)
def holdW (y : Wk × List Int) : Wk := { y.1 with hold := y.1.hold ++ y.2 }

def bagT (x : Wk) (i : Int) : Int := if i = 0 then x.t0 else if i = 1 then x.t1 else x.t2
def bagL (x : Wk) (i : Int) : List Int := if i = 0 then x.l0 else if i = 1 then x.l1 else x.l2
def setBag (x : Wk) (i t : Int) (l : List Int) : Wk := if i = 0 then { x with t0 := t, l0 := l } else if i = 1 then { x with t1 := t, l1 := l } else { x with t2 := t, l2 := l }
/-- The tag of the current bucket. -/
def tagW (x : Wk) : Int := IntKind.wrap .u64 (x.e + 1)
def idxW (x : Wk) : Int := Int.tmod (tagW x) 3
def nowX (x : Wk) : Wk := if bagT x (idxW x) = tagW x then x else setBag (holdW (x, bagL x (idxW x))) (idxW x) (tagW x) []
def nowW (x : Wk) : Wk × Int := (nowX x, idxW x)
def roomW (y : Cfg × Wk) : Wk × Bool := (nowX y.2, decide (((bagL (nowX y.2) (idxW y.2)).length : Int) < y.1.a))
def bagPut (y : Cfg × Wk × Int) : Wk × Bool := if ((bagL (nowX y.2.1) (idxW y.2.1)).length : Int) < y.1.a then (setBag (nowX y.2.1) (idxW y.2.1) (tagW y.2.1) (bagL (nowX y.2.1) (idxW y.2.1) ++ [y.2.2]), true) else (nowX y.2.1, false)
def isRipe (t ep : Int) : Bool := decide (2 ≤ ep) && decide (t ≤ IntKind.wrap .u64 (ep - 2))
def ripe1 (x : Wk) (i ep : Int) : Wk := if isRipe (bagT x i) ep = true then setBag (holdW (x, bagL x i)) i 0 [] else x
def ripeW (y : Wk × Int) : Wk := ripe1 (ripe1 (ripe1 y.1 0 y.2) 1 y.2) 2 y.2
/-- A state whose lists together are small. -/
structure Easy (x : Wk) : Prop where
  rack : small x.rack
  read : small x.read
  sum : x.hold.length + x.l0.length + x.l1.length + x.l2.length ≤ 100000
theorem easy_bear {x : Wk} (h : Easy x) : Bear x := by
  have := h.sum
  exact ⟨h.rack, by unfold small; omega, h.read, by unfold small; omega, by unfold small; omega, by unfold small; omega⟩
noncomputable def ΓR2 : FuncId → Option (GSpec El) := addΓ (addΓ noΓ 90 (freshV aL 3 small id)) 15 (freshV aW 22 small id)
/-- slices.Grow and slices.Concat, in place. -/
noncomputable def ΓG : FuncId → Option (GSpec El) := addΓ noΓ 146 (inl cx noΓ 100 Tryz.f146 (codeOf Tryz.f146))
theorem ΓG_ok : ∀ f g, ΓG f = some g → GOk cx f g := addΓ_ok noΓ_ok (inl_ok noΓ_ok Tryz.func146 (body_of (by kernel_rfl)) Tryz.call146 100)
noncomputable def ΓR4 : FuncId → Option (GSpec El) := addΓ ΓR2 132 (inl cx ΓG 200 Tryz.f132 (codeOf Tryz.f132))
noncomputable def ΓR5 : FuncId → Option (GSpec El) := addΓ (addΓ (addΓ (addΓ ΓR2 117 (plain aPut cdWB (fun y => Bear y.2.1) putW)) 130 (plain aWk cdWI Bear takeW)) 94 (plain aHold aWk (fun y => Bear y.1 ∧ small y.2) holdW)) 131 (plain aWk cdWI Bear nextW)
noncomputable def ΓR7 : FuncId → Option (GSpec El) := addΓ (addΓ ΓR5 145 (plain aWk cdWI Easy nowW)) 65 (plain aRipe aWk (fun y => Easy y.1) ripeW)
noncomputable def ΓR8 : FuncId → Option (GSpec El) := addΓ ΓR7 128 (plain aRoom cdWB (fun y => Easy y.2) roomW)
noncomputable def ΓR9 : FuncId → Option (GSpec El) := addΓ ΓR8 129 (plain aPut cdWB (fun y => Easy y.2.1) bagPut)
end Go.Proofs.YtaeepogbgflbpaaGreat
end

/- What the functions of packages rack and bag compute, printed. No condition. -/
section
set_option linter.unusedVariables false
set_option linter.unusedSimpArgs false
set_option maxRecDepth 100000
namespace Go.Proofs.YtaeepogbgflbpaaGreat
open Go Go.Ax

theorem vc_clone (K : List Int → Prop) (a : List Int) : aexecF cnd cx noΓ noSpec 100 Tryz.f90 (codeOf Tryz.f90) (aL.enc a) [] (fun y R => rdV 3 R y K) = ( cnd
  (List.isEmpty a) (K [] ∧ (((0 : Nat) + List.length a) * (8 : Nat) ≤ (140737488355328 : Nat) ∧ (0 : Nat) + List.length a ≤ (140737488355328 : Nat)) ∧ K ([] ++ a)) ((((0 :
  Nat) + List.length a) * (8 : Nat) ≤ (140737488355328 : Nat) ∧ (0 : Nat) + List.length a ≤ (140737488355328 : Nat)) ∧ K ([] ++ a))) := by kernel_rfl

theorem vc_clonew (K : List Int → Prop) (a : List Int) : aexecF cnd cx noΓ noSpec 100 Tryz.f15 (codeOf Tryz.f15) (aW.enc a) [] (fun y R => rdV 22 R y K) = ( cnd
  (List.isEmpty a) (K [] ∧ (((0 : Nat) + List.length a) * (8 : Nat) ≤ (140737488355328 : Nat) ∧ (0 : Nat) + List.length a ≤ (140737488355328 : Nat)) ∧ K ([] ++ a)) ((((0 :
  Nat) + List.length a) * (8 : Nat) ≤ (140737488355328 : Nat) ∧ (0 : Nat) + List.length a ≤ (140737488355328 : Nat)) ∧ K ([] ++ a))) := by kernel_rfl

theorem vc_put (K : (Wk × Bool) → Prop) (c : Cfg) (x : Wk) (b : Int) : aexecF cnd cx ΓR2 noSpec 200 Tryz.f117 (codeOf Tryz.f117) (aPut.enc (c, x, b)) [] (fun y R => rd
  cdWB (settleA R y) K) = ( cnd (decide ((↑(List.length x.rack) : Int) ≥ c.r)) (K (x, false)) (small x.rack ∧ ((List.length (id x.rack) + List.length [b]) * (8 : Nat) ≤
  (140737488355328 : Nat) ∧ List.length (id x.rack) + List.length [b] ≤ (140737488355328 : Nat)) ∧ K (Wk.mk x.line x.op x.pin x.e (id x.rack ++ [b]) x.t0 x.l0 x.t1 x.l1
  x.t2 x.l2 x.hold x.b x.k x.i x.c x.bor x.h x.n x.v x.u x.g x.j x.read x.t x.ret x.give, true))) := by kernel_rfl

theorem vc_take (K : (Wk × Int) → Prop) (x : Wk) : aexecF cnd cx ΓR2 noSpec 200 Tryz.f130 (codeOf Tryz.f130) (aWk.enc x) [] (fun y R => rd cdWI (settleA R y) K) = ( cnd
  ((↑(List.length x.rack) : Int) == (0 : Int)) (K (x, (-1 : Int))) (((0 : Int) ≤ IntKind.wrap IntKind.i64 ((↑(List.length x.rack) : Int) - (1 : Int)) ∧ IntKind.wrap
  IntKind.i64 ((↑(List.length x.rack) : Int) - (1 : Int)) < (↑(List.length x.rack) : Int)) ∧ ((0 : Int) ≤ IntKind.wrap IntKind.i64 ((↑(List.length x.rack) : Int) - (1 :
  Int)) ∧ IntKind.wrap IntKind.i64 ((↑(List.length x.rack) : Int) - (1 : Int)) ≤ IntKind.wrap IntKind.i64 ((↑(List.length x.rack) : Int) - (1 : Int)) ∧ IntKind.wrap
  IntKind.i64 ((↑(List.length x.rack) : Int) - (1 : Int)) ≤ (↑(List.length x.rack) : Int)) ∧ K (Wk.mk x.line x.op x.pin x.e (List.take (Int.toNat (IntKind.wrap IntKind.i64
  ((↑(List.length x.rack) : Int) - (1 : Int)))) x.rack) x.t0 x.l0 x.t1 x.l1 x.t2 x.l2 x.hold x.b x.k x.i x.c x.bor x.h x.n x.v x.u x.g x.j x.read x.t x.ret x.give,
  List.getD x.rack (Int.toNat (IntKind.wrap IntKind.i64 ((↑(List.length x.rack) : Int) - (1 : Int)))) (0 : Int)))) := by kernel_rfl

theorem vc_next (K : (Wk × Int) → Prop) (x : Wk) : aexecF cnd cx ΓR2 noSpec 200 Tryz.f131 (codeOf Tryz.f131) (aWk.enc x) [] (fun y R => rd cdWI (settleA R y) K) = ( cnd
  ((↑(List.length x.hold) : Int) == (0 : Int)) (K (x, (-1 : Int))) (((0 : Int) ≤ (0 : Int) ∧ (0 : Int) < (↑(List.length x.hold) : Int)) ∧ ((0 : Int) ≤ (1 : Int) ∧ (1 : Int)
  ≤ (↑(List.length x.hold) : Int) ∧ (↑(List.length x.hold) : Int) ≤ (↑(List.length x.hold) : Int) ∧ (↑(List.length x.hold) : Int) ≤ (↑(List.length x.hold) : Int)) ∧ K
  (Wk.mk x.line x.op x.pin x.e x.rack x.t0 x.l0 x.t1 x.l1 x.t2 x.l2 (List.drop (1 : Nat) (List.take (Int.toNat (↑(List.length x.hold) : Int)) x.hold)) x.b x.k x.i x.c x.bor
  x.h x.n x.v x.u x.g x.j x.read x.t x.ret x.give, List.getD x.hold (0 : Nat) (0 : Int)))) := by kernel_rfl

theorem vc_hold (K : Wk → Prop) (x : Wk) (l : List Int) : aexecF cnd cx ΓR4 noSpec 200 Tryz.f94 (codeOf Tryz.f94) (aHold.enc (x, l)) [] (fun y R => rd aWk (settleA R y)
  K) = ( cnd (decide ((↑(List.length l) : Int) > (0 : Int))) (cnd (decide (IntKind.wrap IntKind.i64 ((0 : Int) + (↑(List.length x.hold) : Int)) < (0 : Int))) False (cnd
  (decide (IntKind.wrap IntKind.i64 (IntKind.wrap IntKind.i64 ((0 : Int) + (↑(List.length x.hold) : Int)) + (↑(List.length l) : Int)) < (0 : Int))) False (cnd (decide
  (IntKind.wrap IntKind.i64 (IntKind.wrap IntKind.i64 ((0 : Int) + (↑(List.length x.hold) : Int)) + (↑(List.length l) : Int)) < (0 : Int))) False (cnd (decide (IntKind.wrap
  IntKind.i64 (IntKind.wrap IntKind.i64 (IntKind.wrap IntKind.i64 ((0 : Int) + (↑(List.length x.hold) : Int)) + (↑(List.length l) : Int)) - (0 : Int)) > (0 : Int))) ((0 :
  Int) = (0 : Int) ∧ ((0 : Int) < IntKind.wrap IntKind.i64 (IntKind.wrap IntKind.i64 (IntKind.wrap IntKind.i64 ((0 : Int) + (↑(List.length x.hold) : Int)) + (↑(List.length
  l) : Int)) - (0 : Int)) ∧ (↑(8 : Nat) : Int) * IntKind.wrap IntKind.i64 (IntKind.wrap IntKind.i64 (IntKind.wrap IntKind.i64 ((0 : Int) + (↑(List.length x.hold) : Int)) +
  (↑(List.length l) : Int)) - (0 : Int)) ≤ (140737488355328 : Int) ∧ IntKind.wrap IntKind.i64 (IntKind.wrap IntKind.i64 (IntKind.wrap IntKind.i64 ((0 : Int) +
  (↑(List.length x.hold) : Int)) + (↑(List.length l) : Int)) - (0 : Int)) ≤ (140737488355328 : Int)) ∧ ((0 : Int) ≤ (0 : Int) ∧ (0 : Int) ≤ (↑(List.length (List.replicate
  (Int.toNat (IntKind.wrap IntKind.i64 (IntKind.wrap IntKind.i64 (IntKind.wrap IntKind.i64 ((0 : Int) + (↑(List.length x.hold) : Int)) + (↑(List.length l) : Int)) - (0 :
  Int)))) (0 : Int))) : Int)) ∧ ((List.length (List.take (0 : Nat) (List.replicate (Int.toNat (IntKind.wrap IntKind.i64 (IntKind.wrap IntKind.i64 (IntKind.wrap IntKind.i64
  ((0 : Int) + (↑(List.length x.hold) : Int)) + (↑(List.length l) : Int)) - (0 : Int)))) (0 : Int))) + List.length x.hold) * (8 : Nat) ≤ (140737488355328 : Nat) ∧
  List.length (List.take (0 : Nat) (List.replicate (Int.toNat (IntKind.wrap IntKind.i64 (IntKind.wrap IntKind.i64 (IntKind.wrap IntKind.i64 ((0 : Int) + (↑(List.length
  x.hold) : Int)) + (↑(List.length l) : Int)) - (0 : Int)))) (0 : Int))) + List.length x.hold ≤ (140737488355328 : Nat)) ∧ ((List.length (List.take (0 : Nat)
  (List.replicate (Int.toNat (IntKind.wrap IntKind.i64 (IntKind.wrap IntKind.i64 (IntKind.wrap IntKind.i64 ((0 : Int) + (↑(List.length x.hold) : Int)) + (↑(List.length l) :
  Int)) - (0 : Int)))) (0 : Int)) ++ x.hold) + List.length l) * (8 : Nat) ≤ (140737488355328 : Nat) ∧ List.length (List.take (0 : Nat) (List.replicate (Int.toNat
  (IntKind.wrap IntKind.i64 (IntKind.wrap IntKind.i64 (IntKind.wrap IntKind.i64 ((0 : Int) + (↑(List.length x.hold) : Int)) + (↑(List.length l) : Int)) - (0 : Int)))) (0 :
  Int)) ++ x.hold) + List.length l ≤ (140737488355328 : Nat)) ∧ K (Wk.mk x.line x.op x.pin x.e x.rack x.t0 x.l0 x.t1 x.l1 x.t2 x.l2 (List.take (0 : Nat) (List.replicate
  (Int.toNat (IntKind.wrap IntKind.i64 (IntKind.wrap IntKind.i64 (IntKind.wrap IntKind.i64 ((0 : Int) + (↑(List.length x.hold) : Int)) + (↑(List.length l) : Int)) - (0 :
  Int)))) (0 : Int)) ++ x.hold ++ l) x.b x.k x.i x.c x.bor x.h x.n x.v x.u x.g x.j x.read x.t x.ret x.give)) ((((0 : Nat) + List.length x.hold) * (8 : Nat) ≤
  (140737488355328 : Nat) ∧ (0 : Nat) + List.length x.hold ≤ (140737488355328 : Nat)) ∧ ((List.length ([] ++ x.hold) + List.length l) * (8 : Nat) ≤ (140737488355328 : Nat)
  ∧ List.length ([] ++ x.hold) + List.length l ≤ (140737488355328 : Nat)) ∧ K (Wk.mk x.line x.op x.pin x.e x.rack x.t0 x.l0 x.t1 x.l1 x.t2 x.l2 ([] ++ x.hold ++ l) x.b x.k
  x.i x.c x.bor x.h x.n x.v x.u x.g x.j x.read x.t x.ret x.give)))))) (K x)) := by kernel_rfl

theorem vc_now (K : (Wk × Int) → Prop) (x : Wk) : aexecF cnd cx ΓR5 noSpec 200 Tryz.f145 (codeOf Tryz.f145) (aWk.enc x) [] (fun y R => rd cdWI (settleA R y) K) = ( ((3 :
  Int) = (0 : Int) → False) ∧ cnd (decide (Int.tmod (IntKind.wrap IntKind.u64 (x.e + (1 : Int))) (3 : Int) = (0 : Int))) (cnd (x.t0 != IntKind.wrap IntKind.u64 (x.e + (1 :
  Int))) ((Bear x ∧ small x.l0) ∧ (Bear x ∧ small x.l0) ∧ K (Wk.mk x.line x.op x.pin x.e x.rack (IntKind.wrap IntKind.u64 (x.e + (1 : Int))) [] x.t1 x.l1 x.t2 x.l2 (x.hold
  ++ x.l0) x.b x.k x.i x.c x.bor x.h x.n x.v x.u x.g x.j x.read x.t x.ret x.give, (0 : Int))) (K (x, (0 : Int)))) (cnd (decide (Int.tmod (IntKind.wrap IntKind.u64 (x.e + (1
  : Int))) (3 : Int) = (1 : Int))) (cnd (x.t1 != IntKind.wrap IntKind.u64 (x.e + (1 : Int))) ((Bear x ∧ small x.l1) ∧ (Bear x ∧ small x.l1) ∧ K (Wk.mk x.line x.op x.pin x.e
  x.rack x.t0 x.l0 (IntKind.wrap IntKind.u64 (x.e + (1 : Int))) [] x.t2 x.l2 (x.hold ++ x.l1) x.b x.k x.i x.c x.bor x.h x.n x.v x.u x.g x.j x.read x.t x.ret x.give, (1 :
  Int))) (K (x, (1 : Int)))) (Int.tmod (IntKind.wrap IntKind.u64 (x.e + (1 : Int))) (3 : Int) = (2 : Int) ∧ cnd (x.t2 != IntKind.wrap IntKind.u64 (x.e + (1 : Int))) ((Bear
  x ∧ small x.l2) ∧ (Bear x ∧ small x.l2) ∧ K (Wk.mk x.line x.op x.pin x.e x.rack x.t0 x.l0 x.t1 x.l1 (IntKind.wrap IntKind.u64 (x.e + (1 : Int))) [] (x.hold ++ x.l2) x.b
  x.k x.i x.c x.bor x.h x.n x.v x.u x.g x.j x.read x.t x.ret x.give, (2 : Int))) (K (x, (2 : Int)))))) := by kernel_rfl

theorem vc_ripe (K : Wk → Prop) (x : Wk) (ep : Int) : aexecF cnd cx ΓR5 noSpec 200 Tryz.f65 (codeOf Tryz.f65) (aRipe.enc (x, ep)) [] (fun y R => rd aWk (settleA R y) K) =
  ( cnd (decide (ep ≥ (2 : Int)) == true) (cnd (decide (x.t0 ≤ IntKind.wrap IntKind.u64 (ep - (2 : Int)))) ((Bear x ∧ small x.l0) ∧ cnd (decide (ep ≥ (2 : Int)) == true)
  (cnd (decide (x.t1 ≤ IntKind.wrap IntKind.u64 (ep - (2 : Int)))) ((Bear (Wk.mk x.line x.op x.pin x.e x.rack (0 : Int) [] x.t1 x.l1 x.t2 x.l2 (x.hold ++ x.l0) x.b x.k x.i
  x.c x.bor x.h x.n x.v x.u x.g x.j x.read x.t x.ret x.give) ∧ small x.l1) ∧ cnd (decide (ep ≥ (2 : Int)) == true) (cnd (decide (x.t2 ≤ IntKind.wrap IntKind.u64 (ep - (2 :
  Int)))) ((Bear (Wk.mk x.line x.op x.pin x.e x.rack (0 : Int) [] (0 : Int) [] x.t2 x.l2 (x.hold ++ x.l0 ++ x.l1) x.b x.k x.i x.c x.bor x.h x.n x.v x.u x.g x.j x.read x.t
  x.ret x.give) ∧ small x.l2) ∧ K (Wk.mk x.line x.op x.pin x.e x.rack (0 : Int) [] (0 : Int) [] (0 : Int) [] (x.hold ++ x.l0 ++ x.l1 ++ x.l2) x.b x.k x.i x.c x.bor x.h x.n
  x.v x.u x.g x.j x.read x.t x.ret x.give)) (K (Wk.mk x.line x.op x.pin x.e x.rack (0 : Int) [] (0 : Int) [] x.t2 x.l2 (x.hold ++ x.l0 ++ x.l1) x.b x.k x.i x.c x.bor x.h
  x.n x.v x.u x.g x.j x.read x.t x.ret x.give))) (K (Wk.mk x.line x.op x.pin x.e x.rack (0 : Int) [] (0 : Int) [] x.t2 x.l2 (x.hold ++ x.l0 ++ x.l1) x.b x.k x.i x.c x.bor
  x.h x.n x.v x.u x.g x.j x.read x.t x.ret x.give))) (cnd (decide (ep ≥ (2 : Int)) == true) (cnd (decide (x.t2 ≤ IntKind.wrap IntKind.u64 (ep - (2 : Int)))) ((Bear (Wk.mk
  x.line x.op x.pin x.e x.rack (0 : Int) [] x.t1 x.l1 x.t2 x.l2 (x.hold ++ x.l0) x.b x.k x.i x.c x.bor x.h x.n x.v x.u x.g x.j x.read x.t x.ret x.give) ∧ small x.l2) ∧ K
  (Wk.mk x.line x.op x.pin x.e x.rack (0 : Int) [] x.t1 x.l1 (0 : Int) [] (x.hold ++ x.l0 ++ x.l2) x.b x.k x.i x.c x.bor x.h x.n x.v x.u x.g x.j x.read x.t x.ret x.give))
  (K (Wk.mk x.line x.op x.pin x.e x.rack (0 : Int) [] x.t1 x.l1 x.t2 x.l2 (x.hold ++ x.l0) x.b x.k x.i x.c x.bor x.h x.n x.v x.u x.g x.j x.read x.t x.ret x.give))) (K
  (Wk.mk x.line x.op x.pin x.e x.rack (0 : Int) [] x.t1 x.l1 x.t2 x.l2 (x.hold ++ x.l0) x.b x.k x.i x.c x.bor x.h x.n x.v x.u x.g x.j x.read x.t x.ret x.give)))) (cnd
  (decide (ep ≥ (2 : Int)) == true) (cnd (decide (x.t2 ≤ IntKind.wrap IntKind.u64 (ep - (2 : Int)))) ((Bear (Wk.mk x.line x.op x.pin x.e x.rack (0 : Int) [] x.t1 x.l1 x.t2
  x.l2 (x.hold ++ x.l0) x.b x.k x.i x.c x.bor x.h x.n x.v x.u x.g x.j x.read x.t x.ret x.give) ∧ small x.l2) ∧ K (Wk.mk x.line x.op x.pin x.e x.rack (0 : Int) [] x.t1 x.l1
  (0 : Int) [] (x.hold ++ x.l0 ++ x.l2) x.b x.k x.i x.c x.bor x.h x.n x.v x.u x.g x.j x.read x.t x.ret x.give)) (K (Wk.mk x.line x.op x.pin x.e x.rack (0 : Int) [] x.t1
  x.l1 x.t2 x.l2 (x.hold ++ x.l0) x.b x.k x.i x.c x.bor x.h x.n x.v x.u x.g x.j x.read x.t x.ret x.give))) (K (Wk.mk x.line x.op x.pin x.e x.rack (0 : Int) [] x.t1 x.l1
  x.t2 x.l2 (x.hold ++ x.l0) x.b x.k x.i x.c x.bor x.h x.n x.v x.u x.g x.j x.read x.t x.ret x.give)))) (cnd (decide (ep ≥ (2 : Int)) == true) (cnd (decide (x.t1 ≤
  IntKind.wrap IntKind.u64 (ep - (2 : Int)))) ((Bear x ∧ small x.l1) ∧ cnd (decide (ep ≥ (2 : Int)) == true) (cnd (decide (x.t2 ≤ IntKind.wrap IntKind.u64 (ep - (2 :
  Int)))) ((Bear (Wk.mk x.line x.op x.pin x.e x.rack x.t0 x.l0 (0 : Int) [] x.t2 x.l2 (x.hold ++ x.l1) x.b x.k x.i x.c x.bor x.h x.n x.v x.u x.g x.j x.read x.t x.ret
  x.give) ∧ small x.l2) ∧ K (Wk.mk x.line x.op x.pin x.e x.rack x.t0 x.l0 (0 : Int) [] (0 : Int) [] (x.hold ++ x.l1 ++ x.l2) x.b x.k x.i x.c x.bor x.h x.n x.v x.u x.g x.j
  x.read x.t x.ret x.give)) (K (Wk.mk x.line x.op x.pin x.e x.rack x.t0 x.l0 (0 : Int) [] x.t2 x.l2 (x.hold ++ x.l1) x.b x.k x.i x.c x.bor x.h x.n x.v x.u x.g x.j x.read
  x.t x.ret x.give))) (K (Wk.mk x.line x.op x.pin x.e x.rack x.t0 x.l0 (0 : Int) [] x.t2 x.l2 (x.hold ++ x.l1) x.b x.k x.i x.c x.bor x.h x.n x.v x.u x.g x.j x.read x.t
  x.ret x.give))) (cnd (decide (ep ≥ (2 : Int)) == true) (cnd (decide (x.t2 ≤ IntKind.wrap IntKind.u64 (ep - (2 : Int)))) ((Bear x ∧ small x.l2) ∧ K (Wk.mk x.line x.op
  x.pin x.e x.rack x.t0 x.l0 x.t1 x.l1 (0 : Int) [] (x.hold ++ x.l2) x.b x.k x.i x.c x.bor x.h x.n x.v x.u x.g x.j x.read x.t x.ret x.give)) (K x)) (K x))) (cnd (decide (ep
  ≥ (2 : Int)) == true) (cnd (decide (x.t2 ≤ IntKind.wrap IntKind.u64 (ep - (2 : Int)))) ((Bear x ∧ small x.l2) ∧ K (Wk.mk x.line x.op x.pin x.e x.rack x.t0 x.l0 x.t1 x.l1
  (0 : Int) [] (x.hold ++ x.l2) x.b x.k x.i x.c x.bor x.h x.n x.v x.u x.g x.j x.read x.t x.ret x.give)) (K x)) (K x)))) (cnd (decide (ep ≥ (2 : Int)) == true) (cnd (decide
  (x.t1 ≤ IntKind.wrap IntKind.u64 (ep - (2 : Int)))) ((Bear x ∧ small x.l1) ∧ cnd (decide (ep ≥ (2 : Int)) == true) (cnd (decide (x.t2 ≤ IntKind.wrap IntKind.u64 (ep - (2
  : Int)))) ((Bear (Wk.mk x.line x.op x.pin x.e x.rack x.t0 x.l0 (0 : Int) [] x.t2 x.l2 (x.hold ++ x.l1) x.b x.k x.i x.c x.bor x.h x.n x.v x.u x.g x.j x.read x.t x.ret
  x.give) ∧ small x.l2) ∧ K (Wk.mk x.line x.op x.pin x.e x.rack x.t0 x.l0 (0 : Int) [] (0 : Int) [] (x.hold ++ x.l1 ++ x.l2) x.b x.k x.i x.c x.bor x.h x.n x.v x.u x.g x.j
  x.read x.t x.ret x.give)) (K (Wk.mk x.line x.op x.pin x.e x.rack x.t0 x.l0 (0 : Int) [] x.t2 x.l2 (x.hold ++ x.l1) x.b x.k x.i x.c x.bor x.h x.n x.v x.u x.g x.j x.read
  x.t x.ret x.give))) (K (Wk.mk x.line x.op x.pin x.e x.rack x.t0 x.l0 (0 : Int) [] x.t2 x.l2 (x.hold ++ x.l1) x.b x.k x.i x.c x.bor x.h x.n x.v x.u x.g x.j x.read x.t
  x.ret x.give))) (cnd (decide (ep ≥ (2 : Int)) == true) (cnd (decide (x.t2 ≤ IntKind.wrap IntKind.u64 (ep - (2 : Int)))) ((Bear x ∧ small x.l2) ∧ K (Wk.mk x.line x.op
  x.pin x.e x.rack x.t0 x.l0 x.t1 x.l1 (0 : Int) [] (x.hold ++ x.l2) x.b x.k x.i x.c x.bor x.h x.n x.v x.u x.g x.j x.read x.t x.ret x.give)) (K x)) (K x))) (cnd (decide (ep
  ≥ (2 : Int)) == true) (cnd (decide (x.t2 ≤ IntKind.wrap IntKind.u64 (ep - (2 : Int)))) ((Bear x ∧ small x.l2) ∧ K (Wk.mk x.line x.op x.pin x.e x.rack x.t0 x.l0 x.t1 x.l1
  (0 : Int) [] (x.hold ++ x.l2) x.b x.k x.i x.c x.bor x.h x.n x.v x.u x.g x.j x.read x.t x.ret x.give)) (K x)) (K x)))) := by kernel_rfl

theorem vc_room (K : (Wk × Bool) → Prop) (c : Cfg) (x : Wk) : aexecF cnd cx ΓR7 noSpec 200 Tryz.f128 (codeOf Tryz.f128) (aRoom.enc (c, x)) [] (fun y R => rd cdWB (settleA
  R y) K) = ( Easy x ∧ cnd (decide (idxW x = (↑(0 : Nat) : Int))) (cnd (decide (idxW x = (↑(0 : Nat) : Int))) (K (nowX x, decide ((↑(List.length (nowX x).l0) : Int) <
  c.a))) (cnd (decide (idxW x = (↑((0 : Nat) + (1 : Nat)) : Int))) (K (nowX x, decide ((↑(List.length (nowX x).l1) : Int) < c.a))) (cnd (decide (idxW x = (↑((0 : Nat) + (1
  : Nat) + (1 : Nat)) : Int))) (K (nowX x, decide ((↑(List.length (nowX x).l2) : Int) < c.a))) False))) (cnd (decide (idxW x = (↑((0 : Nat) + (1 : Nat)) : Int))) (cnd
  (decide (idxW x = (↑(0 : Nat) : Int))) (K (nowX x, decide ((↑(List.length (nowX x).l0) : Int) < c.a))) (cnd (decide (idxW x = (↑((0 : Nat) + (1 : Nat)) : Int))) (K (nowX
  x, decide ((↑(List.length (nowX x).l1) : Int) < c.a))) (cnd (decide (idxW x = (↑((0 : Nat) + (1 : Nat) + (1 : Nat)) : Int))) (K (nowX x, decide ((↑(List.length (nowX
  x).l2) : Int) < c.a))) False))) (cnd (decide (idxW x = (↑((0 : Nat) + (1 : Nat) + (1 : Nat)) : Int))) (cnd (decide (idxW x = (↑(0 : Nat) : Int))) (K (nowX x, decide
  ((↑(List.length (nowX x).l0) : Int) < c.a))) (cnd (decide (idxW x = (↑((0 : Nat) + (1 : Nat)) : Int))) (K (nowX x, decide ((↑(List.length (nowX x).l1) : Int) < c.a)))
  (cnd (decide (idxW x = (↑((0 : Nat) + (1 : Nat) + (1 : Nat)) : Int))) (K (nowX x, decide ((↑(List.length (nowX x).l2) : Int) < c.a))) False))) False))) := by kernel_rfl

theorem vc_bput (K : (Wk × Bool) → Prop) (c : Cfg) (x : Wk) (b : Int) : aexecF cnd cx ΓR8 noSpec 200 Tryz.f129 (codeOf Tryz.f129) (aPut.enc (c, x, b)) [] (fun y R => rd
  cdWB (settleA R y) K) = ( Easy x ∧ cnd (!decide ((↑(List.length (bagL (nowX x) (idxW x))) : Int) < c.a)) (K (nowX x, false)) (Easy (nowX x) ∧ cnd (decide (idxW (nowX x) =
  (↑(0 : Nat) : Int))) (small (nowX (nowX x)).l0 ∧ ((List.length (id (nowX (nowX x)).l0) + List.length [b]) * (8 : Nat) ≤ (140737488355328 : Nat) ∧ List.length (id (nowX
  (nowX x)).l0) + List.length [b] ≤ (140737488355328 : Nat)) ∧ cnd (decide (idxW (nowX x) = (↑(0 : Nat) : Int))) (K (Wk.mk (nowX (nowX x)).line (nowX (nowX x)).op (nowX
  (nowX x)).pin (nowX (nowX x)).e (nowX (nowX x)).rack (nowX (nowX x)).t0 (id (nowX (nowX x)).l0 ++ [b]) (nowX (nowX x)).t1 (nowX (nowX x)).l1 (nowX (nowX x)).t2 (nowX
  (nowX x)).l2 (nowX (nowX x)).hold (nowX (nowX x)).b (nowX (nowX x)).k (nowX (nowX x)).i (nowX (nowX x)).c (nowX (nowX x)).bor (nowX (nowX x)).h (nowX (nowX x)).n (nowX
  (nowX x)).v (nowX (nowX x)).u (nowX (nowX x)).g (nowX (nowX x)).j (nowX (nowX x)).read (nowX (nowX x)).t (nowX (nowX x)).ret (nowX (nowX x)).give, true)) (cnd (decide
  (idxW (nowX x) = (↑((0 : Nat) + (1 : Nat)) : Int))) (K (Wk.mk (nowX (nowX x)).line (nowX (nowX x)).op (nowX (nowX x)).pin (nowX (nowX x)).e (nowX (nowX x)).rack (nowX
  (nowX x)).t0 (nowX (nowX x)).l0 (nowX (nowX x)).t1 (id (nowX (nowX x)).l0 ++ [b]) (nowX (nowX x)).t2 (nowX (nowX x)).l2 (nowX (nowX x)).hold (nowX (nowX x)).b (nowX (nowX
  x)).k (nowX (nowX x)).i (nowX (nowX x)).c (nowX (nowX x)).bor (nowX (nowX x)).h (nowX (nowX x)).n (nowX (nowX x)).v (nowX (nowX x)).u (nowX (nowX x)).g (nowX (nowX x)).j
  (nowX (nowX x)).read (nowX (nowX x)).t (nowX (nowX x)).ret (nowX (nowX x)).give, true)) (cnd (decide (idxW (nowX x) = (↑((0 : Nat) + (1 : Nat) + (1 : Nat)) : Int))) (K
  (Wk.mk (nowX (nowX x)).line (nowX (nowX x)).op (nowX (nowX x)).pin (nowX (nowX x)).e (nowX (nowX x)).rack (nowX (nowX x)).t0 (nowX (nowX x)).l0 (nowX (nowX x)).t1 (nowX
  (nowX x)).l1 (nowX (nowX x)).t2 (id (nowX (nowX x)).l0 ++ [b]) (nowX (nowX x)).hold (nowX (nowX x)).b (nowX (nowX x)).k (nowX (nowX x)).i (nowX (nowX x)).c (nowX (nowX
  x)).bor (nowX (nowX x)).h (nowX (nowX x)).n (nowX (nowX x)).v (nowX (nowX x)).u (nowX (nowX x)).g (nowX (nowX x)).j (nowX (nowX x)).read (nowX (nowX x)).t (nowX (nowX
  x)).ret (nowX (nowX x)).give, true)) False))) (cnd (decide (idxW (nowX x) = (↑((0 : Nat) + (1 : Nat)) : Int))) (small (nowX (nowX x)).l1 ∧ ((List.length (id (nowX (nowX
  x)).l1) + List.length [b]) * (8 : Nat) ≤ (140737488355328 : Nat) ∧ List.length (id (nowX (nowX x)).l1) + List.length [b] ≤ (140737488355328 : Nat)) ∧ cnd (decide (idxW
  (nowX x) = (↑(0 : Nat) : Int))) (K (Wk.mk (nowX (nowX x)).line (nowX (nowX x)).op (nowX (nowX x)).pin (nowX (nowX x)).e (nowX (nowX x)).rack (nowX (nowX x)).t0 (id (nowX
  (nowX x)).l1 ++ [b]) (nowX (nowX x)).t1 (nowX (nowX x)).l1 (nowX (nowX x)).t2 (nowX (nowX x)).l2 (nowX (nowX x)).hold (nowX (nowX x)).b (nowX (nowX x)).k (nowX (nowX
  x)).i (nowX (nowX x)).c (nowX (nowX x)).bor (nowX (nowX x)).h (nowX (nowX x)).n (nowX (nowX x)).v (nowX (nowX x)).u (nowX (nowX x)).g (nowX (nowX x)).j (nowX (nowX
  x)).read (nowX (nowX x)).t (nowX (nowX x)).ret (nowX (nowX x)).give, true)) (cnd (decide (idxW (nowX x) = (↑((0 : Nat) + (1 : Nat)) : Int))) (K (Wk.mk (nowX (nowX
  x)).line (nowX (nowX x)).op (nowX (nowX x)).pin (nowX (nowX x)).e (nowX (nowX x)).rack (nowX (nowX x)).t0 (nowX (nowX x)).l0 (nowX (nowX x)).t1 (id (nowX (nowX x)).l1 ++
  [b]) (nowX (nowX x)).t2 (nowX (nowX x)).l2 (nowX (nowX x)).hold (nowX (nowX x)).b (nowX (nowX x)).k (nowX (nowX x)).i (nowX (nowX x)).c (nowX (nowX x)).bor (nowX (nowX
  x)).h (nowX (nowX x)).n (nowX (nowX x)).v (nowX (nowX x)).u (nowX (nowX x)).g (nowX (nowX x)).j (nowX (nowX x)).read (nowX (nowX x)).t (nowX (nowX x)).ret (nowX (nowX
  x)).give, true)) (cnd (decide (idxW (nowX x) = (↑((0 : Nat) + (1 : Nat) + (1 : Nat)) : Int))) (K (Wk.mk (nowX (nowX x)).line (nowX (nowX x)).op (nowX (nowX x)).pin (nowX
  (nowX x)).e (nowX (nowX x)).rack (nowX (nowX x)).t0 (nowX (nowX x)).l0 (nowX (nowX x)).t1 (nowX (nowX x)).l1 (nowX (nowX x)).t2 (id (nowX (nowX x)).l1 ++ [b]) (nowX (nowX
  x)).hold (nowX (nowX x)).b (nowX (nowX x)).k (nowX (nowX x)).i (nowX (nowX x)).c (nowX (nowX x)).bor (nowX (nowX x)).h (nowX (nowX x)).n (nowX (nowX x)).v (nowX (nowX
  x)).u (nowX (nowX x)).g (nowX (nowX x)).j (nowX (nowX x)).read (nowX (nowX x)).t (nowX (nowX x)).ret (nowX (nowX x)).give, true)) False))) (cnd (decide (idxW (nowX x) =
  (↑((0 : Nat) + (1 : Nat) + (1 : Nat)) : Int))) (small (nowX (nowX x)).l2 ∧ ((List.length (id (nowX (nowX x)).l2) + List.length [b]) * (8 : Nat) ≤ (140737488355328 : Nat)
  ∧ List.length (id (nowX (nowX x)).l2) + List.length [b] ≤ (140737488355328 : Nat)) ∧ cnd (decide (idxW (nowX x) = (↑(0 : Nat) : Int))) (K (Wk.mk (nowX (nowX x)).line
  (nowX (nowX x)).op (nowX (nowX x)).pin (nowX (nowX x)).e (nowX (nowX x)).rack (nowX (nowX x)).t0 (id (nowX (nowX x)).l2 ++ [b]) (nowX (nowX x)).t1 (nowX (nowX x)).l1
  (nowX (nowX x)).t2 (nowX (nowX x)).l2 (nowX (nowX x)).hold (nowX (nowX x)).b (nowX (nowX x)).k (nowX (nowX x)).i (nowX (nowX x)).c (nowX (nowX x)).bor (nowX (nowX x)).h
  (nowX (nowX x)).n (nowX (nowX x)).v (nowX (nowX x)).u (nowX (nowX x)).g (nowX (nowX x)).j (nowX (nowX x)).read (nowX (nowX x)).t (nowX (nowX x)).ret (nowX (nowX x)).give,
  true)) (cnd (decide (idxW (nowX x) = (↑((0 : Nat) + (1 : Nat)) : Int))) (K (Wk.mk (nowX (nowX x)).line (nowX (nowX x)).op (nowX (nowX x)).pin (nowX (nowX x)).e (nowX
  (nowX x)).rack (nowX (nowX x)).t0 (nowX (nowX x)).l0 (nowX (nowX x)).t1 (id (nowX (nowX x)).l2 ++ [b]) (nowX (nowX x)).t2 (nowX (nowX x)).l2 (nowX (nowX x)).hold (nowX
  (nowX x)).b (nowX (nowX x)).k (nowX (nowX x)).i (nowX (nowX x)).c (nowX (nowX x)).bor (nowX (nowX x)).h (nowX (nowX x)).n (nowX (nowX x)).v (nowX (nowX x)).u (nowX (nowX
  x)).g (nowX (nowX x)).j (nowX (nowX x)).read (nowX (nowX x)).t (nowX (nowX x)).ret (nowX (nowX x)).give, true)) (cnd (decide (idxW (nowX x) = (↑((0 : Nat) + (1 : Nat) +
  (1 : Nat)) : Int))) (K (Wk.mk (nowX (nowX x)).line (nowX (nowX x)).op (nowX (nowX x)).pin (nowX (nowX x)).e (nowX (nowX x)).rack (nowX (nowX x)).t0 (nowX (nowX x)).l0
  (nowX (nowX x)).t1 (nowX (nowX x)).l1 (nowX (nowX x)).t2 (id (nowX (nowX x)).l2 ++ [b]) (nowX (nowX x)).hold (nowX (nowX x)).b (nowX (nowX x)).k (nowX (nowX x)).i (nowX
  (nowX x)).c (nowX (nowX x)).bor (nowX (nowX x)).h (nowX (nowX x)).n (nowX (nowX x)).v (nowX (nowX x)).u (nowX (nowX x)).g (nowX (nowX x)).j (nowX (nowX x)).read (nowX
  (nowX x)).t (nowX (nowX x)).ret (nowX (nowX x)).give, true)) False))) False)))) := by kernel_rfl

end Go.Proofs.YtaeepogbgflbpaaGreat
end

/- The contracts of packages rack and bag. No condition. -/
section
set_option linter.unusedVariables false
set_option linter.unusedSimpArgs false
set_option maxRecDepth 100000
namespace Go.Proofs.YtaeepogbgflbpaaGreat
open Go Go.Ax

theorem ok90 : GOk cx 90 (freshV aL 3 small id) := freshV_ok noΓ_ok Tryz.func90 (body_of (by kernel_rfl)) Tryz.call90 (fun a h => ⟨noSpec, 100, by
  have e := vc_clone (fun q => q = a) a
  refine Eq.mpr e ?_; clear e
  have h : a.length ≤ 100000 := h
  refine cnd_intro (fun he => ?_) (fun he => ?_)
  · have : a = [] := by simpa using he
    subst this
    exact ⟨rfl, by simp, rfl⟩
  · exact ⟨by omega, rfl⟩⟩)
theorem ok15 : GOk cx 15 (freshV aW 22 small id) := freshV_ok noΓ_ok Tryz.func15 (body_of (by kernel_rfl)) Tryz.call15 (fun a h => ⟨noSpec, 100, by
  have e := vc_clonew (fun q => q = a) a
  refine Eq.mpr e ?_; clear e
  have h : a.length ≤ 100000 := h
  refine cnd_intro (fun he => ?_) (fun he => ?_)
  · have : a = [] := by simpa using he
    subst this
    exact ⟨rfl, by simp, rfl⟩
  · exact ⟨by omega, rfl⟩⟩)
theorem ΓR2_ok : ∀ f g, ΓR2 f = some g → GOk cx f g := addΓ_ok (addΓ_ok noΓ_ok ok90) ok15
theorem ΓR4_ok : ∀ f g, ΓR4 f = some g → GOk cx f g := addΓ_ok ΓR2_ok (inl_ok ΓG_ok Tryz.func132 (body_of (by kernel_rfl)) Tryz.call132 200)
theorem ok117 : GOk cx 117 (plain aPut cdWB (fun y => Bear y.2.1) putW) := plain_ok ΓR2_ok Tryz.func117 (body_of (by kernel_rfl)) Tryz.call117 (fun ⟨c, x, b⟩ h => ⟨noSpec, 200, by
  have h : Bear x := h
  have e := vc_put (fun q => q = putW (c, x, b)) c x b
  rw [e]; clear e
  have h1 := h.rack; unfold small at h1
  refine cnd_intro (fun hc => ?_) (fun hc => ?_)
  · have hc : c.r ≤ (x.rack.length : Int) := of_decide_eq_true hc
    simp [putW, hc]
  · have hc : ¬ c.r ≤ (x.rack.length : Int) := of_decide_eq_false hc
    refine ⟨h.rack, ⟨by simp; omega, by simp; omega⟩, ?_⟩
    simp [putW, hc]⟩)
theorem take_len {x : Wk} (h : x.rack.length ≤ 100000) (hc : x.rack.length ≠ 0) : IntKind.wrap IntKind.i64 ((x.rack.length : Int) - 1) = ((x.rack.length - 1 : Nat) : Int) := by
  rw [IntWalk.i64_in _ (by omega)]; omega
theorem ok130 : GOk cx 130 (plain aWk cdWI Bear takeW) := plain_ok ΓR2_ok Tryz.func130 (body_of (by kernel_rfl)) Tryz.call130 (fun x h => ⟨noSpec, 200, by
  have h : Bear x := h
  have e := vc_take (fun q => q = takeW x) x
  rw [e]; clear e
  have h1 := h.rack; unfold small at h1
  refine cnd_intro (fun hc => ?_) (fun hc => ?_)
  · have hc : x.rack.length = 0 := by simpa using hc
    simp [takeW, hc]
  · have hc : x.rack.length ≠ 0 := by simpa using hc
    rw [take_len h1 hc, Int.toNat_natCast]
    refine ⟨⟨by omega, by omega⟩, ⟨by omega, by omega, by omega⟩, ?_⟩
    rw [takeW, if_neg hc]⟩)
theorem ok131 : GOk cx 131 (plain aWk cdWI Bear nextW) := plain_ok ΓR2_ok Tryz.func131 (body_of (by kernel_rfl)) Tryz.call131 (fun x h => ⟨noSpec, 200, by
  have h : Bear x := h
  have e := vc_next (fun q => q = nextW x) x
  rw [e]; clear e
  have h1 := h.hold; unfold small at h1
  refine cnd_intro (fun hc => ?_) (fun hc => ?_)
  · have hc : x.hold.length = 0 := by simpa using hc
    simp [nextW, hc]
  · have hc : x.hold.length ≠ 0 := by simpa using hc
    refine ⟨⟨by omega, by omega⟩, ⟨by omega, by omega, by omega, by omega⟩, ?_⟩
    rw [nextW, if_neg hc, Int.toNat_natCast, List.take_length]⟩)
theorem ok94 : GOk cx 94 (plain aHold aWk (fun y => Bear y.1 ∧ small y.2) holdW) := plain_ok ΓR4_ok Tryz.func94 (body_of (by kernel_rfl)) Tryz.call94 (fun ⟨x, l⟩ h => ⟨noSpec, 200, by
  obtain ⟨h, hl⟩ : Bear x ∧ small l := h
  have e := vc_hold (fun q => q = holdW (x, l)) x l
  rw [e]; clear e
  have h1 := h.hold; unfold small at h1 hl
  have e1 : IntKind.wrap IntKind.i64 ((0 : Int) + (x.hold.length : Int)) = (x.hold.length : Int) := by rw [IntWalk.i64_in _ (by omega)]; omega
  have e2 : IntKind.wrap IntKind.i64 ((x.hold.length : Int) + (l.length : Int)) = ((x.hold.length + l.length : Nat) : Int) := by rw [IntWalk.i64_in _ (by omega)]; omega
  have e3 : IntKind.wrap IntKind.i64 (((x.hold.length + l.length : Nat) : Int) - 0) = ((x.hold.length + l.length : Nat) : Int) := by rw [IntWalk.i64_in _ (by omega)]; omega
  rw [e1, e2, e3, Int.toNat_natCast, List.take_zero]
  refine cnd_intro (fun hc => ?_) (fun hc => ?_)
  · have hc : 0 < (l.length : Int) := of_decide_eq_true hc
    refine cnd_intro (fun hd => absurd (of_decide_eq_true hd) (by omega)) (fun _ => ?_)
    refine cnd_intro (fun hd => absurd (of_decide_eq_true hd) (by omega)) (fun _ => ?_)
    refine cnd_intro (fun hd => absurd (of_decide_eq_true hd) (by omega)) (fun _ => ?_)
    refine cnd_intro (fun hd => ?_) (fun hd => absurd (of_decide_eq_false hd) (by omega))
    refine ⟨rfl, ⟨by omega, by omega, by omega⟩, ⟨by omega, by omega⟩, ⟨by simp; omega, by simp; omega⟩, ⟨by simp; omega, by simp; omega⟩, ?_⟩
    simp [holdW]
  · have hc : ¬ 0 < (l.length : Int) := of_decide_eq_false hc
    have : l = [] := List.length_eq_zero_iff.1 (by omega)
    subst this
    simp [holdW]⟩)
theorem ΓR5_ok : ∀ f g, ΓR5 f = some g → GOk cx f g := addΓ_ok (addΓ_ok (addΓ_ok (addΓ_ok ΓR2_ok ok117) ok130) ok94) ok131
theorem ok65 : GOk cx 65 (plain aRipe aWk (fun y => Easy y.1) ripeW) := plain_ok ΓR5_ok Tryz.func65 (body_of (by kernel_rfl)) Tryz.call65 (fun ⟨x, ep⟩ h => ⟨noSpec, 200, by
  have h : Easy x := h
  have e := vc_ripe (fun q => q = ripeW (x, ep)) x ep
  rw [e]; clear e
  have hb := easy_bear h
  have hs := h.sum
  have eb : ∀ (t0 t1 t2 : Int) (l0 l1 l2 hd : List Int), hd.length + l0.length + l1.length + l2.length ≤ 100000 → Bear { x with t0 := t0, t1 := t1, t2 := t2, l0 := l0, l1 := l1, l2 := l2, hold := hd } := fun _ _ _ _ _ _ _ hq => easy_bear ⟨h.rack, h.read, hq⟩
  by_cases he : 2 ≤ ep <;> by_cases h0 : x.t0 ≤ IntKind.wrap .u64 (ep - 2) <;> by_cases h1 : x.t1 ≤ IntKind.wrap .u64 (ep - 2) <;> by_cases h2 : x.t2 ≤ IntKind.wrap .u64 (ep - 2) <;>
    simp only [ge_iff_le, he, h0, h1, h2, decide_true, decide_false, cnd, beq_self_eq_true, Bool.false_eq_true, beq_true] <;>
    simp [ripeW, ripe1, isRipe, bagT, bagL, setBag, holdW, he, h0, h1, h2, hb, hb.l0, hb.l1, hb.l2] <;>
    first | exact eb _ _ _ _ _ _ _ (by simp; omega) | exact ⟨eb _ _ _ _ _ _ _ (by simp; omega), eb _ _ _ _ _ _ _ (by simp; omega)⟩⟩)
theorem nowX_0 {x : Wk} (h : idxW x = 0) : nowX x = if x.t0 = tagW x then x else { x with t0 := tagW x, l0 := [], hold := x.hold ++ x.l0 } := by
  simp only [nowX, h, bagT, bagL, setBag, holdW, if_true]
theorem nowX_1 {x : Wk} (h : idxW x = 1) : nowX x = if x.t1 = tagW x then x else { x with t1 := tagW x, l1 := [], hold := x.hold ++ x.l1 } := by
  simp only [nowX, h, bagT, bagL, setBag, holdW, if_true, show ¬ (1 : Int) = 0 by decide, if_false]
theorem nowX_2 {x : Wk} (h : idxW x = 2) : nowX x = if x.t2 = tagW x then x else { x with t2 := tagW x, l2 := [], hold := x.hold ++ x.l2 } := by
  simp only [nowX, h, bagT, bagL, setBag, holdW, show ¬ (2 : Int) = 0 by decide, show ¬ (2 : Int) = 1 by decide, if_false]
theorem idx_two {x : Wk} (h0 : ¬ idxW x = 0) (h1 : ¬ idxW x = 1) : idxW x = 2 := by
  have ht : 0 ≤ tagW x := by unfold tagW; rw [IntKind.wrap_u64]; omega
  unfold idxW at *
  rw [Int.tmod_eq_emod_of_nonneg ht] at *
  omega
theorem ok145 : GOk cx 145 (plain aWk cdWI Easy nowW) := plain_ok ΓR5_ok Tryz.func145 (body_of (by kernel_rfl)) Tryz.call145 (fun x h => ⟨noSpec, 200, by
  have h : Easy x := h
  have e := vc_now (fun q => q = nowW x) x
  rw [e]; clear e
  have hb := easy_bear h
  refine ⟨by decide, cnd_intro (fun h0 => ?_) (fun h0 => cnd_intro (fun h1 => ?_) (fun h1 => ?_))⟩
  · have hi : idxW x = 0 := of_decide_eq_true h0
    unfold nowW; rw [hi, nowX_0 hi]
    refine cnd_intro (fun ht => ⟨⟨hb, hb.l0⟩, ⟨hb, hb.l0⟩, ?_⟩) (fun ht => ?_)
    · rw [if_neg (show ¬ x.t0 = tagW x by simpa [tagW] using ht)]; rfl
    · rw [if_pos (show x.t0 = tagW x by simpa [tagW] using ht)]
  · have hi : idxW x = 1 := of_decide_eq_true h1
    unfold nowW; rw [hi, nowX_1 hi]
    refine cnd_intro (fun ht => ⟨⟨hb, hb.l1⟩, ⟨hb, hb.l1⟩, ?_⟩) (fun ht => ?_)
    · rw [if_neg (show ¬ x.t1 = tagW x by simpa [tagW] using ht)]; rfl
    · rw [if_pos (show x.t1 = tagW x by simpa [tagW] using ht)]
  · have hi : idxW x = 2 := idx_two (of_decide_eq_false h0) (of_decide_eq_false h1)
    refine ⟨hi, ?_⟩
    unfold nowW; rw [hi, nowX_2 hi]
    refine cnd_intro (fun ht => ⟨⟨hb, hb.l2⟩, ⟨hb, hb.l2⟩, ?_⟩) (fun ht => ?_)
    · rw [if_neg (show ¬ x.t2 = tagW x by simpa [tagW] using ht)]; rfl
    · rw [if_pos (show x.t2 = tagW x by simpa [tagW] using ht)]⟩)
theorem ΓR7_ok : ∀ f g, ΓR7 f = some g → GOk cx f g := addΓ_ok (addΓ_ok ΓR5_ok ok145) ok65
theorem idx_cases (x : Wk) : idxW x = 0 ∨ idxW x = 1 ∨ idxW x = 2 := by
  by_cases h0 : idxW x = 0
  · exact .inl h0
  · by_cases h1 : idxW x = 1
    · exact .inr (.inl h1)
    · exact .inr (.inr (idx_two h0 h1))
theorem nowX_e (x : Wk) : (nowX x).e = x.e := by
  rcases idx_cases x with h | h | h
  · rw [nowX_0 h]; split <;> rfl
  · rw [nowX_1 h]; split <;> rfl
  · rw [nowX_2 h]; split <;> rfl
theorem tag_now (x : Wk) : tagW (nowX x) = tagW x := by unfold tagW; rw [nowX_e]
theorem idx_now (x : Wk) : idxW (nowX x) = idxW x := by unfold idxW; rw [tag_now]
theorem nowX_idem (x : Wk) : nowX (nowX x) = nowX x := by
  have hi := idx_now x
  have ht := tag_now x
  rcases idx_cases x with h | h | h
  · rw [nowX_0 (hi.trans h), ht, if_pos]
    rw [nowX_0 h]; split
    · assumption
    · rfl
  · rw [nowX_1 (hi.trans h), ht, if_pos]
    rw [nowX_1 h]; split
    · assumption
    · rfl
  · rw [nowX_2 (hi.trans h), ht, if_pos]
    rw [nowX_2 h]; split
    · assumption
    · rfl
theorem nowX_easy {x : Wk} (hx : Easy x) : Easy (nowX x) := by
  have := hx.sum
  rcases idx_cases x with h | h | h
  · rw [nowX_0 h]; split
    · exact hx
    · exact ⟨hx.rack, hx.read, by simp; omega⟩
  · rw [nowX_1 h]; split
    · exact hx
    · exact ⟨hx.rack, hx.read, by simp; omega⟩
  · rw [nowX_2 h]; split
    · exact hx
    · exact ⟨hx.rack, hx.read, by simp; omega⟩
theorem now_t0 {x : Wk} (h : idxW x = 0) : (nowX x).t0 = tagW x := by
  rw [nowX_0 h]; split
  · assumption
  · rfl
theorem now_t1 {x : Wk} (h : idxW x = 1) : (nowX x).t1 = tagW x := by
  rw [nowX_1 h]; split
  · assumption
  · rfl
theorem now_t2 {x : Wk} (h : idxW x = 2) : (nowX x).t2 = tagW x := by
  rw [nowX_2 h]; split
  · assumption
  · rfl
theorem ok128 : GOk cx 128 (plain aRoom cdWB (fun y => Easy y.2) roomW) := plain_ok ΓR7_ok Tryz.func128 (body_of (by kernel_rfl)) Tryz.call128 (fun ⟨c, x⟩ h => ⟨noSpec, 200, by
  have h : Easy x := h
  have e := vc_room (fun q => q = roomW (c, x)) c x
  rw [e]; clear e
  refine ⟨h, ?_⟩
  rcases idx_cases x with hi | hi | hi <;> simp [hi, cnd, roomW, bagL]⟩)
theorem ΓR8_ok : ∀ f g, ΓR8 f = some g → GOk cx f g := addΓ_ok ΓR7_ok ok128
theorem ok129 : GOk cx 129 (plain aPut cdWB (fun y => Easy y.2.1) bagPut) := plain_ok ΓR8_ok Tryz.func129 (body_of (by kernel_rfl)) Tryz.call129 (fun ⟨c, x, b⟩ h => ⟨noSpec, 200, by
  have h : Easy x := h
  have e := vc_bput (fun q => q = bagPut (c, x, b)) c x b
  rw [e]; clear e
  have hn := nowX_easy h
  have hb := easy_bear hn
  have hs := hn.sum
  refine ⟨h, ?_⟩
  rw [idx_now, nowX_idem]
  by_cases hc : ((bagL (nowX x) (idxW x)).length : Int) < c.a
  · rcases idx_cases x with hi | hi | hi <;> rw [hi] at hc
    · simp [hi, cnd, bagPut, hc, hn, hb.l0, hb.l1, hb.l2, bagL, setBag, now_t0 hi]; simp [bagL] at hc; try simp [hc]
      try omega
    · simp [hi, cnd, bagPut, hc, hn, hb.l0, hb.l1, hb.l2, bagL, setBag, now_t1 hi]; simp [bagL] at hc; try simp [hc]
      try omega
    · simp [hi, cnd, bagPut, hc, hn, hb.l0, hb.l1, hb.l2, bagL, setBag, now_t2 hi]; simp [bagL] at hc; try simp [hc]
      try omega
  · simp [cnd, bagPut, hc]⟩)
theorem ΓR9_ok : ∀ f g, ΓR9 f = some g → GOk cx f g := addΓ_ok ΓR8_ok ok129
def sumW (x : Wk) : Nat := x.hold.length + x.l0.length + x.l1.length + x.l2.length
theorem rr_set (x : Wk) (i t : Int) (l : List Int) : (setBag x i t l).rack = x.rack ∧ (setBag x i t l).read = x.read ∧ (setBag x i t l).e = x.e := by
  unfold setBag; split
  · exact ⟨rfl, rfl, rfl⟩
  · split <;> exact ⟨rfl, rfl, rfl⟩
theorem rr_now (x : Wk) : (nowX x).rack = x.rack ∧ (nowX x).read = x.read := by
  unfold nowX; split
  · exact ⟨rfl, rfl⟩
  · obtain ⟨h1, h2, _⟩ := rr_set (holdW (x, bagL x (idxW x))) (idxW x) (tagW x) []; exact ⟨h1, h2⟩
theorem sum_move (x : Wk) (i t : Int) : sumW (setBag (holdW (x, bagL x i)) i t []) = sumW x := by
  unfold sumW setBag holdW bagL
  split
  · simp
  · split
    · simp only [List.length_append, List.length_nil]; omega
    · simp only [List.length_append, List.length_nil]; omega
theorem sum_now (x : Wk) : sumW (nowX x) = sumW x := by
  unfold nowX; split
  · rfl
  · exact sum_move ..
theorem sum_add (x : Wk) (i t b : Int) : sumW (setBag x i t (bagL x i ++ [b])) = sumW x + 1 := by
  unfold sumW setBag bagL
  split
  · simp only [List.length_append, List.length_cons, List.length_nil]; omega
  · split <;> simp only [List.length_append, List.length_cons, List.length_nil] <;> omega
theorem sum_put (y : Cfg × Wk × Int) : sumW (bagPut y).1 ≤ sumW y.2.1 + 1 := by
  unfold bagPut; split
  · show sumW (setBag _ _ _ _) ≤ _
    rw [sum_add, sum_now]; exact Nat.le_refl _
  · show sumW (nowX _) ≤ _
    rw [sum_now]; omega
theorem rr_put (y : Cfg × Wk × Int) : (bagPut y).1.rack = y.2.1.rack ∧ (bagPut y).1.read = y.2.1.read := by
  unfold bagPut; split
  · obtain ⟨h1, h2, _⟩ := rr_set (nowX y.2.1) (idxW y.2.1) (tagW y.2.1) (bagL (nowX y.2.1) (idxW y.2.1) ++ [y.2.2])
    obtain ⟨h3, h4⟩ := rr_now y.2.1
    exact ⟨h1.trans h3, h2.trans h4⟩
  · exact rr_now _
theorem sum_ripe1 (x : Wk) (i ep : Int) : sumW (ripe1 x i ep) = sumW x := by
  unfold ripe1; split
  · exact sum_move ..
  · rfl
theorem rr_ripe1 (x : Wk) (i ep : Int) : (ripe1 x i ep).rack = x.rack ∧ (ripe1 x i ep).read = x.read := by
  unfold ripe1; split
  · obtain ⟨h1, h2, _⟩ := rr_set (holdW (x, bagL x i)) i 0 []; exact ⟨h1, h2⟩
  · exact ⟨rfl, rfl⟩
end Go.Proofs.YtaeepogbgflbpaaGreat
end

/- What the functions of package plan compute, in plain Lean; their tables. No condition. -/
section
set_option linter.unusedVariables false
set_option linter.unusedSimpArgs false
set_option maxRecDepth 100000
namespace Go.Proofs.YtaeepogbgflbpaaGreat
open Go Go.Ax

def least (c : Cfg) : Bool := decide (c.w < 1 ∨ c.s < 1 ∨ c.b < 1 ∨ c.o < 1 ∨ c.e < 1 ∨ c.r < 0 ∨ c.a < 1 ∨ c.l < 1)
def most (c : Cfg) : Bool := decide (8 < c.w ∨ 8 < c.s ∨ 16 < c.b ∨ 4 < c.o ∨ 32 < c.e ∨ 4 < c.r ∨ 8 < c.a ∨ 1048576 < c.l)
def checkV (c : Cfg) : Int := if least c = true then 1 else if most c = true then 2 else 0
def slabsV (c : Cfg) : Int := wr (3 + c.w)
def entriesV (c : Cfg) : Int := wr (slabsV c + c.s)
def blocksV (c : Cfg) : Int := wr (entriesV c + wr (2 * c.e))
def atV (c : Cfg) (f i m k : Int) : Int := if i < 0 ∨ m ≤ i ∨ checkV c ≠ 0 then -1 else wr (f + wr (i * k))
def totalV (c : Cfg) : Int := if checkV c = 0 then wr (c.s * c.b) else 0
def sizeV (c : Cfg) : Int := if checkV c = 0 then wr (blocksV c + wr (totalV c * wr (1 + c.o))) else 0
def announceV (c : Cfg) (i : Int) : Int := atV c 3 i c.w 1
def slabV (c : Cfg) (i : Int) : Int := atV c (slabsV c) i c.s 1
def entryV (c : Cfg) (i : Int) : Int := atV c (entriesV c) i c.e 2
def entryLinkV (c : Cfg) (i : Int) : Int := atV c (wr (entriesV c + 1)) i c.e 2
def blockLinkV (c : Cfg) (i : Int) : Int := atV c (blocksV c) i (totalV c) (wr (1 + c.o))
def wordV (c : Cfg) (i k : Int) : Int := if 0 ≤ blockLinkV c i ∧ 0 ≤ k ∧ k < c.o then wr (wr (blockLinkV c i + 1) + k) else -1
def homeV (c : Cfg) (i : Int) : Int := if blockLinkV c i < 0 then -1 else wr (i.tdiv c.b)
def zeroCfg : Cfg := ⟨0, 0, 0, 0, 0, 0, 0, 0⟩
def newV (c : Cfg) : Cfg := if checkV c = 0 then c else zeroCfg

/-- A contract whose result is one number. -/
noncomputable def num {α : Type} (d : Cd El α) (f : α → Int) : GSpec El := ctr cx (tell d fun x => (True, .int .i64 (f x), []))
abbrev aCI : Cd El (Cfg × Int) := .pair aCfg aI
noncomputable def ΓPA : FuncId → Option (GSpec El) := addΓ (addΓ (addΓ noΓ 17 (num aCfg checkV)) 32 (num aCfg checkV)) 91 (num aCfg slabsV)
noncomputable def ΓPB : FuncId → Option (GSpec El) := addΓ (addΓ (addΓ (addΓ ΓPA 59 (num aCfg entriesV)) 58 (num (.pair aCfg (.pair aI (.pair aI (.pair aI aI)))) fun x => atV x.1 x.2.1 x.2.2.1 x.2.2.2.1 x.2.2.2.2)) 57 (num aCfg totalV))
  45 (ctr cx (tell aCfg fun x => (True, .tup [.agg (cdCfg.enc (newV x)), .int .i64 (checkV x)], [])))
noncomputable def ΓPC : FuncId → Option (GSpec El) := addΓ ΓPB 56 (num aCfg blocksV)
noncomputable def ΓPD : FuncId → Option (GSpec El) := addΓ (addΓ (addΓ (addΓ (addΓ (addΓ ΓPC 46 (num aCfg sizeV)) 102 (num aCI fun x => announceV x.1 x.2)) 109 (num aCI fun x => slabV x.1 x.2)) 49 (num aCI fun x => entryV x.1 x.2))
  50 (num aCI fun x => entryLinkV x.1 x.2)) 96 (num aCI fun x => blockLinkV x.1 x.2)
noncomputable def ΓPE : FuncId → Option (GSpec El) := addΓ (addΓ ΓPD 68 (num (.pair aCfg (.pair aI aI)) fun x => wordV x.1 x.2.1 x.2.2)) 110 (num aCI fun x => homeV x.1 x.2)
end Go.Proofs.YtaeepogbgflbpaaGreat
end

/- What the functions of package plan compute, printed. No condition. -/
section
set_option linter.unusedVariables false
set_option linter.unusedSimpArgs false
set_option maxRecDepth 100000
set_option maxHeartbeats 4000000
namespace Go.Proofs.YtaeepogbgflbpaaGreat
open Go Go.Ax

theorem vc_check (K : AVal El → Prop) (x : Cfg) : aexecF cnd cx noΓ noSpec 100 Tryz.f17 (codeOf Tryz.f17) (aCfg.enc x) [] (fun y _ => K y) = ( cnd (decide (x.w < (1 : Int))) (K (AVal.int .i64 1)) (cnd
  (decide (x.s < (1 : Int))) (K (AVal.int .i64 1)) (cnd (decide (x.b < (1 : Int))) (K (AVal.int .i64 1)) (cnd (decide (x.o < (1 : Int))) (K (AVal.int .i64 1)) (cnd (decide (x.e < (1 : Int))) (K
  (AVal.int .i64 1)) (cnd (decide (x.r < (0 : Int))) (K (AVal.int .i64 1)) (cnd (decide (x.a < (1 : Int))) (K (AVal.int .i64 1)) (cnd (decide (x.l < (1 : Int))) (K (AVal.int .i64 1)) (cnd (decide (x.l >
  (1048576 : Int))) (K (AVal.int .i64 2)) (K (AVal.int .i64 (selZ (decide (x.a > (8 : Int))) (2 : Int) (selZ (decide (x.r > (4 : Int))) (2 : Int) (selZ (decide (x.e > (32 : Int))) (2 : Int) (selZ
  (decide (x.o > (4 : Int))) (2 : Int) (selZ (decide (x.b > (16 : Int))) (2 : Int) (selZ (decide (x.s > (8 : Int))) (2 : Int) (selZ (decide (x.w > (8 : Int))) (2 : Int) (0 : Int))))))))))))))))))) := by
  kernel_rfl

theorem vc_rcheck (K : AVal El → Prop) (x : Cfg) : aexecF cnd cx noΓ noSpec 100 Tryz.f32 (codeOf Tryz.f32) (aCfg.enc x) [] (fun y _ => K y) = ( cnd (decide (x.w < (1 : Int)) == false) (cnd (decide
  (x.s < (1 : Int)) == false) (cnd (decide (x.b < (1 : Int)) == false) (cnd (decide (x.o < (1 : Int)) == false) (cnd (decide (x.e < (1 : Int)) == false) (cnd (decide (x.a < (1 : Int)) == false) (cnd
  (decide (x.r < (0 : Int)) == false) (cnd (decide (x.l < (1 : Int))) (K (AVal.int .i64 1)) (cnd (decide (x.w > (8 : Int)) == false) (cnd (decide (x.s > (8 : Int)) == false) (cnd (decide (x.b > (16 :
  Int)) == false) (cnd (decide (x.o > (4 : Int)) == false) (cnd (decide (x.e > (32 : Int)) == false) (cnd (decide (x.a > (8 : Int)) == false) (cnd (decide (x.r > (4 : Int)) == false) (cnd (decide (x.l >
  (1048576 : Int))) (K (AVal.int .i64 2)) (K (AVal.int .i64 0))) (K (AVal.int .i64 2))) (K (AVal.int .i64 2))) (K (AVal.int .i64 2))) (K (AVal.int .i64 2))) (K (AVal.int .i64 2))) (K (AVal.int .i64 2)))
  (K (AVal.int .i64 2)))) (K (AVal.int .i64 1))) (K (AVal.int .i64 1))) (K (AVal.int .i64 1))) (K (AVal.int .i64 1))) (K (AVal.int .i64 1))) (K (AVal.int .i64 1))) (K (AVal.int .i64 1))) := by
  kernel_rfl

theorem vc_slabs (K : AVal El → Prop) (x : Cfg) : aexecF cnd cx noΓ noSpec 100 Tryz.f91 (codeOf Tryz.f91) (aCfg.enc x) [] (fun y _ => K y) = ( K (AVal.int .i64 (wr ((3 : Int) + x.w)))) := by
  kernel_rfl

theorem vc_entries (K : AVal El → Prop) (x : Cfg) : aexecF cnd cx ΓPA noSpec 100 Tryz.f59 (codeOf Tryz.f59) (aCfg.enc x) [] (fun y _ => K y) = ( True ∧ K (AVal.int .i64 (wr (slabsV x + x.s)))) := by
  kernel_rfl

theorem vc_at (K : AVal El → Prop) (x : Cfg) (f i m k : Int) : aexecF cnd cx ΓPA noSpec 100 Tryz.f58 (codeOf Tryz.f58) (Cd.enc (.pair aCfg (.pair aI (.pair aI (.pair aI aI)))) (x, f, i, m, k)) [] (fun
  y _ => K y) = ( cnd (decide (i < (0 : Int)) == false) (cnd (decide (i ≥ m) == false) (True ∧ cnd (checkV x != (0 : Int)) (K (AVal.int .i64 (-1 : Int))) (K (AVal.int .i64 (wr (f + wr (i * k)))))) (K
  (AVal.int .i64 (-1 : Int)))) (K (AVal.int .i64 (-1 : Int)))) := by kernel_rfl

theorem vc_total (K : AVal El → Prop) (x : Cfg) : aexecF cnd cx ΓPA noSpec 100 Tryz.f57 (codeOf Tryz.f57) (aCfg.enc x) [] (fun y _ => K y) = ( True ∧ cnd (checkV x != (0 : Int)) (K (AVal.int .i64 0))
  (K (AVal.int .i64 (wr (x.s * x.b))))) := by kernel_rfl

theorem vc_new (K : AVal El → Prop) (x : Cfg) : aexecF cnd cx ΓPA noSpec 100 Tryz.f45 (codeOf Tryz.f45) (aCfg.enc x) [] (fun y _ => K y) = ( True ∧ cnd (checkV x != (0 : Int)) (K (AVal.tup [AVal.agg
  [AVal.int .i64 0, AVal.int .i64 0, AVal.int .i64 0, AVal.int .i64 0, AVal.int .i64 0, AVal.int .i64 0, AVal.int .i64 0, AVal.int .u64 0], AVal.int .i64 (checkV x)])) (K (AVal.tup [AVal.agg [AVal.int
  .i64 x.w, AVal.int .i64 x.s, AVal.int .i64 x.b, AVal.int .i64 x.o, AVal.int .i64 x.e, AVal.int .i64 x.r, AVal.int .i64 x.a, AVal.int .u64 x.l], AVal.int .i64 0]))) := by kernel_rfl

theorem vc_blocks (K : AVal El → Prop) (x : Cfg) : aexecF cnd cx ΓPB noSpec 100 Tryz.f56 (codeOf Tryz.f56) (aCfg.enc x) [] (fun y _ => K y) = ( True ∧ K (AVal.int .i64 (wr (entriesV x + wr ((2 : Int)
  * x.e))))) := by kernel_rfl

theorem vc_size (K : AVal El → Prop) (x : Cfg) : aexecF cnd cx ΓPC noSpec 100 Tryz.f46 (codeOf Tryz.f46) (aCfg.enc x) [] (fun y _ => K y) = ( True ∧ cnd (checkV x != (0 : Int)) (K (AVal.int .i64 0))
  (True ∧ True ∧ K (AVal.int .i64 (wr (blocksV x + wr (totalV x * wr ((1 : Int) + x.o))))))) := by kernel_rfl

theorem vc_announce (K : AVal El → Prop) (x : Cfg) (i : Int) : aexecF cnd cx ΓPC noSpec 100 Tryz.f102 (codeOf Tryz.f102) (aCI.enc (x, i)) [] (fun y _ => K y) = ( True ∧ K (AVal.int .i64 (atV x (3 :
  Int) i x.w (1 : Int)))) := by kernel_rfl

theorem vc_slab (K : AVal El → Prop) (x : Cfg) (i : Int) : aexecF cnd cx ΓPC noSpec 100 Tryz.f109 (codeOf Tryz.f109) (aCI.enc (x, i)) [] (fun y _ => K y) = ( True ∧ True ∧ K (AVal.int .i64 (atV x
  (slabsV x) i x.s (1 : Int)))) := by kernel_rfl

theorem vc_entry (K : AVal El → Prop) (x : Cfg) (i : Int) : aexecF cnd cx ΓPC noSpec 100 Tryz.f49 (codeOf Tryz.f49) (aCI.enc (x, i)) [] (fun y _ => K y) = ( True ∧ True ∧ K (AVal.int .i64 (atV x
  (entriesV x) i x.e (2 : Int)))) := by kernel_rfl

theorem vc_entryLink (K : AVal El → Prop) (x : Cfg) (i : Int) : aexecF cnd cx ΓPC noSpec 100 Tryz.f50 (codeOf Tryz.f50) (aCI.enc (x, i)) [] (fun y _ => K y) = ( True ∧ True ∧ K (AVal.int .i64 (atV x
  (wr (entriesV x + (1 : Int))) i x.e (2 : Int)))) := by kernel_rfl

theorem vc_blockLink (K : AVal El → Prop) (x : Cfg) (i : Int) : aexecF cnd cx ΓPC noSpec 100 Tryz.f96 (codeOf Tryz.f96) (aCI.enc (x, i)) [] (fun y _ => K y) = ( True ∧ True ∧ True ∧ K (AVal.int .i64
  (atV x (blocksV x) i (totalV x) (wr ((1 : Int) + x.o))))) := by kernel_rfl

theorem vc_word (K : AVal El → Prop) (x : Cfg) (i k : Int) : aexecF cnd cx ΓPD noSpec 100 Tryz.f68 (codeOf Tryz.f68) (Cd.enc (.pair aCfg (.pair aI aI)) (x, i, k)) [] (fun y _ => K y) = ( True ∧ cnd
  (decide (blockLinkV x i ≥ (0 : Int)) == true) (cnd (decide (k ≥ (0 : Int)) == true) (cnd (decide (k < x.o)) (K (AVal.int .i64 (wr (wr (blockLinkV x i + (1 : Int)) + k)))) (K (AVal.int .i64 (-1 :
  Int)))) (K (AVal.int .i64 (-1 : Int)))) (K (AVal.int .i64 (-1 : Int)))) := by kernel_rfl

theorem vc_home (K : AVal El → Prop) (x : Cfg) (i : Int) : aexecF cnd cx ΓPD noSpec 100 Tryz.f110 (codeOf Tryz.f110) (aCI.enc (x, i)) [] (fun y _ => K y) = ( True ∧ cnd (decide (blockLinkV x i < (0 :
  Int))) (K (AVal.int .i64 (-1 : Int))) ((x.b = (0 : Int) → False) ∧ K (AVal.int .i64 (wr (Int.tdiv i x.b))))) := by kernel_rfl

end Go.Proofs.YtaeepogbgflbpaaGreat
end

/- The contracts of package plan. No condition. -/
section
set_option linter.unusedVariables false
set_option linter.unusedSimpArgs false
set_option maxRecDepth 100000
set_option maxHeartbeats 4000000
namespace Go.Proofs.YtaeepogbgflbpaaGreat
open Go Go.Ax

theorem num_ok {Γ : FuncId → Option (GSpec El)} (hΓ : ∀ f g, Γ f = some g → GOk cx f g) {f : FuncId} {fn : Func} (hfn : Tryz.prog.funcs[f]? = some fn) (hb : fn.body.isSome = true)
    (henter : ∀ args w, (callFunc f args).run Tryz.prog w = .ok (.enter f args) w) {α : Type} {d : Cd El α} {t : α → Int}
    (h : ∀ x, aexecF cnd cx Γ noSpec 100 fn (codeOf fn) (d.enc x) [] (fun y _ => y = .int .i64 (t x))) : GOk cx f (num d t) :=
  tell_ctr hΓ hfn (body_of hb) henter (n := 100) (fun x _ => by
    have := h x
    have e : (fun (y : AVal El) (R : List (Res El)) => y = AVal.int IntKind.i64 (t x) ∧ matchR R []) = fun y _ => y = AVal.int IntKind.i64 (t x) := by funext y R; simp [matchR]
    show aexecF cnd cx Γ noSpec 100 fn (codeOf fn) (d.enc x) [] (fun (y : AVal El) (R : List (Res El)) => y = AVal.int IntKind.i64 (t x) ∧ matchR R [])
    rw [e]; exact this)

theorem check0 {x : Cfg} (h : 1 ≤ x.w ∧ 1 ≤ x.s ∧ 1 ≤ x.b ∧ 1 ≤ x.o ∧ 1 ≤ x.e ∧ 0 ≤ x.r ∧ 1 ≤ x.a ∧ 1 ≤ x.l) (h' : x.w ≤ 8 ∧ x.s ≤ 8 ∧ x.b ≤ 16 ∧ x.o ≤ 4 ∧ x.e ≤ 32 ∧ x.r ≤ 4 ∧ x.a ≤ 8 ∧ x.l ≤ 1048576) : checkV x = 0 := by
  unfold checkV
  rw [if_neg (by simp only [least, decide_eq_true_eq]; omega), if_neg (by simp only [most, decide_eq_true_eq]; omega)]
theorem check1 {x : Cfg} (h : x.w < 1 ∨ x.s < 1 ∨ x.b < 1 ∨ x.o < 1 ∨ x.e < 1 ∨ x.r < 0 ∨ x.a < 1 ∨ x.l < 1) : checkV x = 1 := by
  unfold checkV
  rw [if_pos (by simp only [least, decide_eq_true_eq]; exact h)]
theorem check2 {x : Cfg} (h : 1 ≤ x.w ∧ 1 ≤ x.s ∧ 1 ≤ x.b ∧ 1 ≤ x.o ∧ 1 ≤ x.e ∧ 0 ≤ x.r ∧ 1 ≤ x.a ∧ 1 ≤ x.l) (h' : 8 < x.w ∨ 8 < x.s ∨ 16 < x.b ∨ 4 < x.o ∨ 32 < x.e ∨ 4 < x.r ∨ 8 < x.a ∨ 1048576 < x.l) : checkV x = 2 := by
  unfold checkV
  rw [if_neg (by simp only [least, decide_eq_true_eq]; omega), if_pos (by simp only [most, decide_eq_true_eq]; exact h')]
set_option maxHeartbeats 2000000 in
theorem rcheck_told (x : Cfg) : aexecF cnd cx noΓ noSpec 100 Tryz.f32 (codeOf Tryz.f32) (aCfg.enc x) [] (fun y _ => y = .int .i64 (checkV x)) := by
  have e := vc_rcheck (fun y => y = .int .i64 (checkV x)) x
  rw [e]
  repeat' (refine cnd_intro (fun h => ?_) (fun h => ?_))
  all_goals simp only [beq_false, beq_true, Bool.not_eq_true', Bool.not_eq_false', decide_eq_true_eq, decide_eq_false_iff_not] at *
  all_goals first
    | exact congrArg _ (check0 (by omega) (by omega)).symm
    | exact congrArg _ (check1 (by omega)).symm
    | exact congrArg _ (check2 (by omega) (by omega)).symm
set_option maxHeartbeats 2000000 in
theorem check_told (x : Cfg) : aexecF cnd cx noΓ noSpec 100 Tryz.f17 (codeOf Tryz.f17) (aCfg.enc x) [] (fun y _ => y = .int .i64 (checkV x)) := by
  have e := vc_check (fun y => y = .int .i64 (checkV x)) x
  rw [e]
  repeat' (refine cnd_intro (fun h => ?_) (fun h => ?_))
  all_goals simp only [decide_eq_true_eq, decide_eq_false_iff_not] at *
  all_goals first
    | exact congrArg _ (check1 (by omega)).symm
    | exact congrArg _ (check2 (by omega) (by omega)).symm
    | skip
  all_goals
    refine congrArg _ (Eq.symm ?_)
    by_cases hm : 8 < x.w ∨ 8 < x.s ∨ 16 < x.b ∨ 4 < x.o ∨ 32 < x.e ∨ 4 < x.r ∨ 8 < x.a ∨ 1048576 < x.l
    · rw [check2 (by omega) hm]
      by_cases h7 : x.a > 8
      · simp [selZ, h7]
      by_cases h6 : x.r > 4
      · simp [selZ, h6, h7]
      by_cases h5 : x.e > 32
      · simp [selZ, h5, h6, h7]
      by_cases h4 : x.o > 4
      · simp [selZ, h4, h5, h6, h7]
      by_cases h3 : x.b > 16
      · simp [selZ, h3, h4, h5, h6, h7]
      by_cases h2 : x.s > 8
      · simp [selZ, h2, h3, h4, h5, h6, h7]
      by_cases h1 : x.w > 8
      · simp [selZ, h1, h2, h3, h4, h5, h6, h7]
      omega
    · rw [check0 (by omega) (by omega)]
      have h1 : ¬ x.a > 8 := by omega
      have h2 : ¬ x.r > 4 := by omega
      have h3 : ¬ x.e > 32 := by omega
      have h4 : ¬ x.o > 4 := by omega
      have h5 : ¬ x.b > 16 := by omega
      have h6 : ¬ x.s > 8 := by omega
      have h7 : ¬ x.w > 8 := by omega
      simp [selZ, h1, h2, h3, h4, h5, h6, h7]
theorem ok17 : GOk cx 17 (num aCfg checkV) := num_ok (d := aCfg) (t := checkV) (fn := Tryz.f17) (Γ := noΓ) noΓ_ok Tryz.func17 (by kernel_rfl) Tryz.call17 (fun x => by
  have h := check_told x
  exact h)
theorem ok32 : GOk cx 32 (num aCfg checkV) := num_ok noΓ_ok Tryz.func32 (by kernel_rfl) Tryz.call32 rcheck_told
theorem ok91 : GOk cx 91 (num aCfg slabsV) := num_ok noΓ_ok Tryz.func91 (by kernel_rfl) Tryz.call91 (fun x => by
  have e := vc_slabs (fun y => y = .int .i64 (slabsV x)) x
  rw [e]; rfl)
theorem ΓPA_ok : ∀ f g, ΓPA f = some g → GOk cx f g := addΓ_ok (addΓ_ok (addΓ_ok noΓ_ok ok17) ok32) ok91
theorem ok59 : GOk cx 59 (num aCfg entriesV) := num_ok ΓPA_ok Tryz.func59 (by kernel_rfl) Tryz.call59 (fun x => by
  have e := vc_entries (fun y => y = .int .i64 (entriesV x)) x
  rw [e]; exact ⟨trivial, rfl⟩)
theorem ok58 : GOk cx 58 (num (.pair aCfg (.pair aI (.pair aI (.pair aI aI)))) fun x => atV x.1 x.2.1 x.2.2.1 x.2.2.2.1 x.2.2.2.2) := num_ok ΓPA_ok Tryz.func58 (by kernel_rfl) Tryz.call58 (fun ⟨x, f, i, m, k⟩ => by
  have e := vc_at (fun y => y = .int .i64 (atV x f i m k)) x f i m k
  rw [e]
  repeat' first | refine cnd_intro (fun h => ?_) (fun h => ?_) | refine And.intro trivial ?_
  all_goals simp only [beq_false, beq_true, Bool.not_eq_true', Bool.not_eq_false', decide_eq_true_eq, decide_eq_false_iff_not, bne_iff_ne, bne_eq_false_iff_eq, ge_iff_le] at *
  all_goals simp only [atV, AVal.int.injEq, true_and]
  all_goals simp_all
  all_goals omega)
theorem ok57 : GOk cx 57 (num aCfg totalV) := num_ok ΓPA_ok Tryz.func57 (by kernel_rfl) Tryz.call57 (fun x => by
  have e := vc_total (fun y => y = .int .i64 (totalV x)) x
  rw [e]
  refine ⟨trivial, cnd_intro (fun h => ?_) (fun h => ?_)⟩
  · have : ¬ checkV x = 0 := by simpa using h
    simp [totalV, this]
  · have : checkV x = 0 := by simpa using h
    simp [totalV, this])
theorem ok45 : GOk cx 45 (ctr cx (tell aCfg fun x => (True, .tup [.agg (cdCfg.enc (newV x)), .int .i64 (checkV x)], []))) := tell_ctr ΓPA_ok Tryz.func45 (body_of (by kernel_rfl)) Tryz.call45 (n := 100) (fun x _ => by
  have e := vc_new (fun y => y = .tup [.agg (cdCfg.enc (newV x)), .int .i64 (checkV x)]) x
  have e1 : (fun (y : AVal El) (R : List (Res El)) => y = .tup [.agg (cdCfg.enc (newV x)), .int .i64 (checkV x)] ∧ matchR R []) = fun y _ => y = .tup [.agg (cdCfg.enc (newV x)), .int .i64 (checkV x)] := by funext y R; simp [matchR]
  show aexecF cnd cx ΓPA noSpec 100 Tryz.f45 (codeOf Tryz.f45) (aCfg.enc x) [] (fun (y : AVal El) (R : List (Res El)) => y = .tup [.agg (cdCfg.enc (newV x)), .int .i64 (checkV x)] ∧ matchR R [])
  rw [e1, e]
  refine ⟨trivial, cnd_intro (fun h => ?_) (fun h => ?_)⟩
  · have : ¬ checkV x = 0 := by simpa using h
    simp only [newV, this, if_false]; rfl
  · have : checkV x = 0 := by simpa using h
    simp only [newV, this, if_true]; rfl)
theorem ΓPB_ok : ∀ f g, ΓPB f = some g → GOk cx f g := addΓ_ok (addΓ_ok (addΓ_ok (addΓ_ok ΓPA_ok ok59) ok58) ok57) ok45
theorem ok56 : GOk cx 56 (num aCfg blocksV) := num_ok ΓPB_ok Tryz.func56 (by kernel_rfl) Tryz.call56 (fun x => by
  have e := vc_blocks (fun y => y = .int .i64 (blocksV x)) x
  rw [e]; exact ⟨trivial, rfl⟩)
theorem ΓPC_ok : ∀ f g, ΓPC f = some g → GOk cx f g := addΓ_ok ΓPB_ok ok56
theorem ok46 : GOk cx 46 (num aCfg sizeV) := num_ok ΓPC_ok Tryz.func46 (by kernel_rfl) Tryz.call46 (fun x => by
  have e := vc_size (fun y => y = .int .i64 (sizeV x)) x
  rw [e]
  refine ⟨trivial, cnd_intro (fun h => ?_) (fun h => ?_)⟩
  · have : ¬ checkV x = 0 := by simpa using h
    simp [sizeV, this]
  · have : checkV x = 0 := by simpa using h
    simp [sizeV, this])
theorem ok102 : GOk cx 102 (num aCI fun x => announceV x.1 x.2) := num_ok ΓPC_ok Tryz.func102 (by kernel_rfl) Tryz.call102 (fun ⟨x, i⟩ => by
  have e := vc_announce (fun y => y = .int .i64 (announceV x i)) x i
  rw [e]; exact ⟨trivial, rfl⟩)
theorem ok109 : GOk cx 109 (num aCI fun x => slabV x.1 x.2) := num_ok ΓPC_ok Tryz.func109 (by kernel_rfl) Tryz.call109 (fun ⟨x, i⟩ => by
  have e := vc_slab (fun y => y = .int .i64 (slabV x i)) x i
  rw [e]; exact ⟨trivial, trivial, rfl⟩)
theorem ok49 : GOk cx 49 (num aCI fun x => entryV x.1 x.2) := num_ok ΓPC_ok Tryz.func49 (by kernel_rfl) Tryz.call49 (fun ⟨x, i⟩ => by
  have e := vc_entry (fun y => y = .int .i64 (entryV x i)) x i
  rw [e]; exact ⟨trivial, trivial, rfl⟩)
theorem ok50 : GOk cx 50 (num aCI fun x => entryLinkV x.1 x.2) := num_ok ΓPC_ok Tryz.func50 (by kernel_rfl) Tryz.call50 (fun ⟨x, i⟩ => by
  have e := vc_entryLink (fun y => y = .int .i64 (entryLinkV x i)) x i
  rw [e]; exact ⟨trivial, trivial, rfl⟩)
theorem ok96 : GOk cx 96 (num aCI fun x => blockLinkV x.1 x.2) := num_ok ΓPC_ok Tryz.func96 (by kernel_rfl) Tryz.call96 (fun ⟨x, i⟩ => by
  have e := vc_blockLink (fun y => y = .int .i64 (blockLinkV x i)) x i
  rw [e]; exact ⟨trivial, trivial, trivial, rfl⟩)
theorem ΓPD_ok : ∀ f g, ΓPD f = some g → GOk cx f g := addΓ_ok (addΓ_ok (addΓ_ok (addΓ_ok (addΓ_ok (addΓ_ok ΓPC_ok ok46) ok102) ok109) ok49) ok50) ok96
theorem ok68 : GOk cx 68 (num (.pair aCfg (.pair aI aI)) fun x => wordV x.1 x.2.1 x.2.2) := num_ok ΓPD_ok Tryz.func68 (by kernel_rfl) Tryz.call68 (fun ⟨x, i, k⟩ => by
  have e := vc_word (fun y => y = .int .i64 (wordV x i k)) x i k
  rw [e]
  repeat' first | refine cnd_intro (fun h => ?_) (fun h => ?_) | refine And.intro trivial ?_
  all_goals simp only [beq_false, beq_true, Bool.not_eq_true', Bool.not_eq_false', decide_eq_true_eq, decide_eq_false_iff_not, ge_iff_le] at *
  · simp only [wordV]; rw [if_pos ⟨by omega, by omega, by omega⟩]
  all_goals (simp only [wordV]; rw [if_neg (by omega)]))
theorem blockLink_ok {x : Cfg} {i : Int} (h : ¬ blockLinkV x i < 0) : checkV x = 0 := by
  unfold blockLinkV atV at h
  split at h
  · omega
  · omega
theorem valid_of {x : Cfg} (h : checkV x = 0) : 1 ≤ x.w ∧ 1 ≤ x.s ∧ 1 ≤ x.b ∧ 1 ≤ x.o ∧ 1 ≤ x.e ∧ 0 ≤ x.r ∧ 1 ≤ x.a ∧ 1 ≤ x.l ∧ x.w ≤ 8 ∧ x.s ≤ 8 ∧ x.b ≤ 16 ∧ x.o ≤ 4 ∧ x.e ≤ 32 ∧ x.r ≤ 4 ∧ x.a ≤ 8 ∧ x.l ≤ 1048576 := by
  unfold checkV at h
  split at h
  · cases h
  · rename_i h1
    split at h
    · cases h
    · rename_i h2
      simp only [least, most, decide_eq_true_eq] at h1 h2
      omega
theorem ok110 : GOk cx 110 (num aCI fun x => homeV x.1 x.2) := num_ok ΓPD_ok Tryz.func110 (by kernel_rfl) Tryz.call110 (fun ⟨x, i⟩ => by
  have e := vc_home (fun y => y = .int .i64 (homeV x i)) x i
  rw [e]
  refine ⟨trivial, cnd_intro (fun h => ?_) (fun h => ?_)⟩
  · have : blockLinkV x i < 0 := by simpa using h
    simp [homeV, this]
  · have h : ¬ blockLinkV x i < 0 := by simpa using h
    have := valid_of (blockLink_ok h)
    refine ⟨fun hb => ?_, ?_⟩
    · omega
    · simp [homeV, h])
theorem ΓPE_ok : ∀ f g, ΓPE f = some g → GOk cx f g := addΓ_ok (addΓ_ok ΓPD_ok ok68) ok110
end Go.Proofs.YtaeepogbgflbpaaGreat
end

/- The shared memory as plain data, what the functions of package memory compute, and how the memory lies behind its pointer. No condition. -/
section
set_option linter.unusedVariables false
set_option linter.unusedSimpArgs false
set_option maxRecDepth 100000
namespace Go.Proofs.YtaeepogbgflbpaaGreat
open Go Go.Ax

@[reducible] def Wk.with0 (x : Wk) (y : Int) : Wk := { x with line := y }
@[reducible] def Wk.with1 (x : Wk) (y : OpD) : Wk := { x with op := y }
@[reducible] def Wk.with2 (x : Wk) (y : Bool) : Wk := { x with pin := y }
@[reducible] def Wk.with3 (x : Wk) (y : Int) : Wk := { x with e := y }
@[reducible] def Wk.with4 (x : Wk) (y : List Int) : Wk := { x with rack := y }
@[reducible] def Wk.with5 (x : Wk) (y : Int) : Wk := { x with t0 := y }
@[reducible] def Wk.with6 (x : Wk) (y : List Int) : Wk := { x with l0 := y }
@[reducible] def Wk.with7 (x : Wk) (y : Int) : Wk := { x with t1 := y }
@[reducible] def Wk.with8 (x : Wk) (y : List Int) : Wk := { x with l1 := y }
@[reducible] def Wk.with9 (x : Wk) (y : Int) : Wk := { x with t2 := y }
@[reducible] def Wk.with10 (x : Wk) (y : List Int) : Wk := { x with l2 := y }
@[reducible] def Wk.with11 (x : Wk) (y : List Int) : Wk := { x with hold := y }
@[reducible] def Wk.with12 (x : Wk) (y : Int) : Wk := { x with b := y }
@[reducible] def Wk.with13 (x : Wk) (y : Int) : Wk := { x with k := y }
@[reducible] def Wk.with14 (x : Wk) (y : Int) : Wk := { x with i := y }
@[reducible] def Wk.with15 (x : Wk) (y : Int) : Wk := { x with c := y }
@[reducible] def Wk.with16 (x : Wk) (y : Int) : Wk := { x with bor := y }
@[reducible] def Wk.with17 (x : Wk) (y : Int) : Wk := { x with h := y }
@[reducible] def Wk.with18 (x : Wk) (y : Int) : Wk := { x with n := y }
@[reducible] def Wk.with19 (x : Wk) (y : Int) : Wk := { x with v := y }
@[reducible] def Wk.with20 (x : Wk) (y : Int) : Wk := { x with u := y }
@[reducible] def Wk.with21 (x : Wk) (y : Int) : Wk := { x with g := y }
@[reducible] def Wk.with22 (x : Wk) (y : Int) : Wk := { x with j := y }
@[reducible] def Wk.with23 (x : Wk) (y : List Int) : Wk := { x with read := y }
@[reducible] def Wk.with24 (x : Wk) (y : Int) : Wk := { x with t := y }
@[reducible] def Wk.with25 (x : Wk) (y : Int) : Wk := { x with ret := y }
@[reducible] def Wk.with26 (x : Wk) (y : Bool) : Wk := { x with give := y }
structure Md where
  c : Cfg
  seen : Acc
  ws : List Int
@[reducible] def Md.with0 (x : Md) (y : Cfg) : Md := { x with c := y }
@[reducible] def Md.with1 (x : Md) (y : Acc) : Md := { x with seen := y }
@[reducible] def Md.with2 (x : Md) (y : List Int) : Md := { x with ws := y }
def cdHdr : Cd El (Cfg × Acc) := .pair cdCfg cdAcc
def encM (m : Md) : List (Res El) := [.cells 103 (cdHdr.enc (m.c, m.seen) ++ [.vec 1]), .vec 22 m.ws]
def decM (R : List (Res El)) : Option Md := match R with
  | [.cells t cs, .vec t' ws] => match Nat.decEq t 103, Nat.decEq t' 22, cdHdr.dec false cs with
    | .isTrue _, .isTrue h, some (x, [.vec 1]) => some ⟨x.1, x.2, (h ▸ ws : List (El 22))⟩
    | _, _, _ => none
  | _ => none
theorem decM_ok (R : List (Res El)) (m : Md) (h : decM R = some m) : R = encM m := by
  unfold decM at h
  split at h
  · rename_i t cs t' ws
    split at h
    · rename_i h1 h2 x e1 e2 hx
      subst h1; subst h2
      cases h
      have := cdHdr.strict _ _ _ hx
      rw [this]; rfl
    · cases h
  · cases h
def GM : Gr El Md where
  gr := encM
  dec := decM
  dec_ok := decM_ok
  n := 2
  fuel := 6
  len _ := rfl
  live s q hq := by
    match q, hq with
    | 0, _ => intro h; cases h
    | 1, _ => intro h; cases h
  refs s := rfl
  keep _ := true
  pos := by decide
  root := rfl

/-- Whether an address is there. -/
def inM (m : Md) (i : Int) : Bool := decide (0 ≤ i ∧ i < (m.ws.length : Int))
def atM (m : Md) (i : Int) : Int := m.ws.getD i.toNat 0
def rdW (m : Md) (i : Int) : Int := if inM m i = true then atM m i else 0
def seeM (m : Md) (a : Acc) : Acc := if inM m a.at_ = true then { a with old := atM m a.at_ } else acc0
def clearM (m : Md) : Md := { m with seen := acc0 }
def loadM (m : Md) (i : Int) : Md × Int := ({ m with seen := seeM m ⟨1, i, 0, 0, 0⟩ }, rdW m i)
def storeM (m : Md) (i x : Int) : Md := { m with seen := seeM m ⟨2, i, x, 0, 0⟩, ws := if inM m i = true then m.ws.set i.toNat x else m.ws }
def casB (m : Md) (i x : Int) : Bool := inM m i && decide (atM m i = x)
def casM (m : Md) (i x y : Int) : Md × Bool := ({ m with seen := seeM m ⟨3, i, x, y, 0⟩, ws := if casB m i x = true then m.ws.set i.toNat y else m.ws }, casB m i x)
def addV (m : Md) (i x : Int) : Int := IntKind.wrap .u64 (atM m i + x)
def addM (m : Md) (i x : Int) : Md × Int := ({ m with seen := seeM m ⟨4, i, x, 0, 0⟩, ws := if inM m i = true then m.ws.set i.toNat (addV m i x) else m.ws }, if inM m i = true then IntKind.wrap .u64 (addV m i x - x) else 0)
noncomputable def ΓM0 : FuncId → Option (GSpec El) := addΓ noΓ 95 (inl cx noΓ 100 Tryz.f95 (codeOf Tryz.f95))
theorem ΓM0_ok : ∀ f g, ΓM0 f = some g → GOk cx f g := addΓ_ok noΓ_ok (inl_ok noΓ_ok Tryz.func95 (body_of (by kernel_rfl)) Tryz.call95 100)
abbrev aII : Cd El (Int × Int) := .pair aI aU
abbrev aIII : Cd El (Int × Int × Int) := .pair aI (.pair aU aU)
noncomputable def gClear : GSpec El := gcall GM .unit .unit (fun _ _ => True) (fun m (_ : Unit) => (clearM m, ()))
noncomputable def gLoad : GSpec El := gcall GM aI aU (fun _ _ => True) loadM
noncomputable def gStore : GSpec El := gcall GM aII .unit (fun _ _ => True) (fun m x => (storeM m x.1 x.2, ()))
noncomputable def gCas : GSpec El := gcall GM aIII .bool (fun _ _ => True) (fun m x => casM m x.1 x.2.1 x.2.2)
noncomputable def gAdd : GSpec El := gcall GM aII aU (fun _ _ => True) (fun m x => addM m x.1 x.2)
end Go.Proofs.YtaeepogbgflbpaaGreat
end

/- What the functions of package memory compute, printed. No condition. -/
section
set_option linter.unusedVariables false
set_option linter.unusedSimpArgs false
set_option maxRecDepth 100000
set_option maxHeartbeats 4000000
namespace Go.Proofs.YtaeepogbgflbpaaGreat
open Go Go.Ax

theorem vc_clear (K : Md → Unit → Prop) (m : Md) : aexecF cnd cx noΓ noSpec 100 Tryz.f63 (codeOf Tryz.f63) (.ptr 0 0 :: []) (GM.gr m) (fun y R => rdG GM Cd.unit y R K) = ( K (Md.with1 m (Acc.mk 0 0 0
  0 0)) ()) := by kernel_rfl

theorem vc_load (K : Md → Int → Prop) (m : Md) (i : Int) : aexecF cnd cx ΓM0 noSpec 100 Tryz.f66 (codeOf Tryz.f66) (.ptr 0 0 :: aI.enc i) (GM.gr m) (fun y R => rdG GM aU y R K) = ( cnd (decide (i < (0
  : Int)) == false) (cnd (decide (i ≥ (↑(List.length m.ws) : Int))) (K (Md.with1 m (Acc.mk 0 0 0 0 0)) (0 : Int)) (((0 : Int) ≤ i ∧ i < (↑(List.length m.ws) : Int)) ∧ Int.toNat i < List.length m.ws ∧
  Int.toNat i < List.length m.ws ∧ K (Md.with1 m (Acc.mk 1 i 0 0 (List.getD m.ws (Int.toNat i) (0 : Int)))) (List.getD m.ws (Int.toNat i) (0 : Int)))) (K (Md.with1 m (Acc.mk 0 0 0 0 0)) (0 : Int))) :=
  by kernel_rfl

theorem vc_store (K : Md → Unit → Prop) (m : Md) (i x : Int) : aexecF cnd cx ΓM0 noSpec 100 Tryz.f67 (codeOf Tryz.f67) (.ptr 0 0 :: aII.enc (i, x)) (GM.gr m) (fun y R => rdG GM Cd.unit y R K) = ( cnd
  (decide (i < (0 : Int)) == false) (cnd (decide (i ≥ (↑(List.length m.ws) : Int))) (K (Md.with1 m (Acc.mk 0 0 0 0 0)) ()) (((0 : Int) ≤ i ∧ i < (↑(List.length m.ws) : Int)) ∧ Int.toNat i < List.length
  m.ws ∧ Int.toNat i < List.length m.ws ∧ K (Md.mk m.c (Acc.mk 2 i x 0 (List.getD m.ws (Int.toNat i) (0 : Int))) (List.set m.ws (Int.toNat i) x)) ())) (K (Md.with1 m (Acc.mk 0 0 0 0 0)) ())) := by
  kernel_rfl

theorem vc_cas (K : Md → Bool → Prop) (m : Md) (i x y : Int) : aexecF cnd cx ΓM0 noSpec 100 Tryz.f103 (codeOf Tryz.f103) (.ptr 0 0 :: aIII.enc (i, x, y)) (GM.gr m) (fun y R => rdG GM Cd.bool y R K) =
  ( cnd (decide (i < (0 : Int)) == false) (cnd (decide (i ≥ (↑(List.length m.ws) : Int))) (K (Md.with1 m (Acc.mk 0 0 0 0 0)) false) (((0 : Int) ≤ i ∧ i < (↑(List.length m.ws) : Int)) ∧ Int.toNat i <
  List.length m.ws ∧ Int.toNat i < List.length m.ws ∧ cnd (List.getD m.ws (Int.toNat i) (0 : Int) != x) (K (Md.with1 m (Acc.mk 3 i x y (List.getD m.ws (Int.toNat i) (0 : Int)))) false) (Int.toNat i <
  List.length m.ws ∧ K (Md.mk m.c (Acc.mk 3 i x y (List.getD m.ws (Int.toNat i) (0 : Int))) (List.set m.ws (Int.toNat i) y)) true))) (K (Md.with1 m (Acc.mk 0 0 0 0 0)) false)) := by kernel_rfl

theorem vc_add (K : Md → Int → Prop) (m : Md) (i x : Int) : aexecF cnd cx ΓM0 noSpec 100 Tryz.f108 (codeOf Tryz.f108) (.ptr 0 0 :: aII.enc (i, x)) (GM.gr m) (fun y R => rdG GM aU y R K) = ( cnd
  (decide (i < (0 : Int)) == false) (cnd (decide (i ≥ (↑(List.length m.ws) : Int))) (K (Md.with1 m (Acc.mk 0 0 0 0 0)) (0 : Int)) (((0 : Int) ≤ i ∧ i < (↑(List.length m.ws) : Int)) ∧ Int.toNat i <
  List.length m.ws ∧ Int.toNat i < List.length m.ws ∧ Int.toNat i < List.length m.ws ∧ Int.toNat i < List.length (List.set m.ws (Int.toNat i) (IntKind.wrap .u64 (List.getD m.ws (Int.toNat i) (0 : Int) + x))) ∧ K
  (Md.mk m.c (Acc.mk 4 i x 0 (List.getD m.ws (Int.toNat i) (0 : Int))) (List.set m.ws (Int.toNat i) (IntKind.wrap .u64 (List.getD m.ws (Int.toNat i) (0 : Int) + x)))) (IntKind.wrap .u64 (List.getD (List.set m.ws (Int.toNat i) (IntKind.wrap .u64
  (List.getD m.ws (Int.toNat i) (0 : Int) + x))) (Int.toNat i) (0 : Int) - x)))) (K (Md.with1 m (Acc.mk 0 0 0 0 0)) (0 : Int))) := by kernel_rfl

end Go.Proofs.YtaeepogbgflbpaaGreat
end

/- The contracts of package memory's accesses. No condition. -/
section
set_option linter.unusedVariables false
set_option linter.unusedSimpArgs false
set_option maxRecDepth 100000
set_option maxHeartbeats 1000000
namespace Go.Proofs.YtaeepogbgflbpaaGreat
open Go Go.Ax

/-- A contract over the memory, shown without a told loop. -/
theorem gm_ok {Γ : FuncId → Option (GSpec El)} (hΓ : ∀ f g, Γ f = some g → GOk cx f g) {f : FuncId} {fn : Func} (hfn : Tryz.prog.funcs[f]? = some fn) (hb : fn.body.isSome = true)
    (henter : ∀ args w, (callFunc f args).run Tryz.prog w = .ok (.enter f args) w) {α β : Type} {d : Cd El α} {e : Cd El β} {pre : Md → α → Prop} {t : Md → α → Md × β} {n : Nat}
    (h : ∀ m x, pre m x → aexecF cnd cx Γ noSpec n fn (codeOf fn) (.ptr 0 0 :: d.enc x) (GM.gr m) (fun y R => rdG GM e y R (fun m' b => (m', b) = t m x))) : GOk cx f (gcall GM d e pre t) :=
  gcall_ok hΓ hfn (body_of hb) henter (fun m x hp => ⟨noSpec, n, h m x hp⟩)
theorem inM_iff {m : Md} {i : Int} : inM m i = true ↔ 0 ≤ i ∧ i < (m.ws.length : Int) := by unfold inM; simp
theorem inM_neg {m : Md} {i : Int} (h : i < 0) : inM m i = false := by unfold inM; simp; omega
theorem inM_big {m : Md} {i : Int} (h : (m.ws.length : Int) ≤ i) : inM m i = false := by unfold inM; simp; omega
theorem ok63 : GOk cx 63 gClear := gm_ok (Γ := noΓ) (n := 100) (d := .unit) (e := .unit) noΓ_ok Tryz.func63 (by kernel_rfl) Tryz.call63 (fun m x _ => by
  have e := vc_clear (fun m' b => (m', b) = (clearM m, ())) m
  exact Eq.mpr e rfl)
theorem ok66 : GOk cx 66 gLoad := gm_ok (n := 100) (d := aI) (e := aU) ΓM0_ok Tryz.func66 (by kernel_rfl) Tryz.call66 (fun m i _ => by
  have e := vc_load (fun m' b => (m', b) = loadM m i) m i
  refine Eq.mpr e (cnd_intro (fun h1 => cnd_intro (fun h2 => ?_) (fun h2 => ?_)) (fun h1 => ?_))
  · have h2 : inM m i = false := inM_big (by simpa using h2)
    simp [loadM, seeM, rdW, h2, acc0]
  · have h1 : 0 ≤ i := by simpa using h1
    have h2 : i < (m.ws.length : Int) := by simpa using h2
    have h3 := inM_iff.2 ⟨h1, h2⟩
    refine ⟨⟨h1, h2⟩, by omega, by omega, ?_⟩
    simp [loadM, seeM, rdW, h3, atM]
  · have h2 : inM m i = false := inM_neg (by simpa using h1)
    simp [loadM, seeM, rdW, h2, acc0])
theorem ok67 : GOk cx 67 gStore := gm_ok (n := 100) (d := aII) (e := .unit) ΓM0_ok Tryz.func67 (by kernel_rfl) Tryz.call67 (fun m ⟨i, x⟩ _ => by
  have e := vc_store (fun m' b => (m', b) = (storeM m i x, ())) m i x
  refine Eq.mpr e (cnd_intro (fun h1 => cnd_intro (fun h2 => ?_) (fun h2 => ?_)) (fun h1 => ?_))
  · have h2 : inM m i = false := inM_big (by simpa using h2)
    simp [storeM, seeM, h2, acc0]
  · have h1 : 0 ≤ i := by simpa using h1
    have h2 : i < (m.ws.length : Int) := by simpa using h2
    have h3 := inM_iff.2 ⟨h1, h2⟩
    refine ⟨⟨h1, h2⟩, by omega, by omega, ?_⟩
    simp [storeM, seeM, h3, atM]
  · have h2 : inM m i = false := inM_neg (by simpa using h1)
    simp [storeM, seeM, h2, acc0])
theorem ok103 : GOk cx 103 gCas := gm_ok (n := 100) (d := aIII) (e := .bool) ΓM0_ok Tryz.func103 (by kernel_rfl) Tryz.call103 (fun m ⟨i, x, y⟩ _ => by
  have e := vc_cas (fun m' b => (m', b) = casM m i x y) m i x y
  refine Eq.mpr e (cnd_intro (fun h1 => cnd_intro (fun h2 => ?_) (fun h2 => ?_)) (fun h1 => ?_))
  · have h2 : inM m i = false := inM_big (by simpa using h2)
    simp [casM, casB, seeM, h2, acc0]
  · have h1 : 0 ≤ i := by simpa using h1
    have h2 : i < (m.ws.length : Int) := by simpa using h2
    have h3 := inM_iff.2 ⟨h1, h2⟩
    refine ⟨⟨h1, h2⟩, by omega, by omega, cnd_intro (fun h4 => ?_) (fun h4 => ⟨by omega, ?_⟩)⟩
    · have h4 : ¬ atM m i = x := by simpa [atM] using h4
      have h5 : casB m i x = false := by simp [casB, h4]
      simp [casM, h5, seeM, h3, atM]
    · have h4 : atM m i = x := by simpa [atM] using h4
      have h5 : casB m i x = true := by simp [casB, h3, h4]
      simp only [casM, h5, seeM, h3, if_true]
      simp [atM]
  · have h2 : inM m i = false := inM_neg (by simpa using h1)
    simp [casM, casB, seeM, h2, acc0])
theorem ok108 : GOk cx 108 gAdd := gm_ok (n := 100) (d := aII) (e := aU) ΓM0_ok Tryz.func108 (by kernel_rfl) Tryz.call108 (fun m ⟨i, x⟩ _ => by
  have e := vc_add (fun m' b => (m', b) = addM m i x) m i x
  refine Eq.mpr e (cnd_intro (fun h1 => cnd_intro (fun h2 => ?_) (fun h2 => ?_)) (fun h1 => ?_))
  · have h2 : inM m i = false := inM_big (by simpa using h2)
    simp [addM, seeM, h2, acc0]
  · have h1 : 0 ≤ i := by simpa using h1
    have h2 : i < (m.ws.length : Int) := by simpa using h2
    have h3 := inM_iff.2 ⟨h1, h2⟩
    have h4 : i.toNat < m.ws.length := by omega
    refine ⟨⟨h1, h2⟩, h4, h4, h4, by rw [List.length_set]; exact h4, ?_⟩
    have hg : List.getD (List.set m.ws i.toNat (IntKind.wrap IntKind.u64 (List.getD m.ws i.toNat 0 + x))) i.toNat 0 = IntKind.wrap IntKind.u64 (List.getD m.ws i.toNat 0 + x) := by
      rw [List.getD_eq_getElem?_getD, List.getElem?_set_self h4]; rfl
    rw [hg]
    simp [addM, seeM, h3, atM, addV]
  · have h2 : inM m i = false := inM_neg (by simpa using h1)
    simp [addM, seeM, h2, acc0])
end Go.Proofs.YtaeepogbgflbpaaGreat
end

/- What the functions of package pack compute, in plain Lean. No condition. -/
section
set_option linter.unusedVariables false
set_option linter.unusedSimpArgs false
set_option maxRecDepth 100000
namespace Go.Proofs.YtaeepogbgflbpaaGreat
open Go Go.Ax

abbrev wu (n : Int) : Int := IntKind.wrap .u64 n
def tkE (w : Int) : Int := wr (wr (IntKind.wrap .u16 w) - 1)
def tkG (w : Int) : Int := Int.fdiv w 65536
def headW (p v : Int) : Int := bits .or .u64 (wu (v * 4294967296)) (wu (IntKind.wrap .u32 (wr (p + 1))))
def entryW (g b s : Int) : Int := bits .or .u64 (bits .or .u64 (wu (g * 1048576)) (wu (wu (IntKind.wrap .u16 (wr (b + 1))) * 16))) (wu (Int.fdiv (IntKind.wrap .u8 (IntKind.wrap .u8 s * 16)) 16))
def annE (w : Int) : Int := Int.fdiv w 2
def annA (w : Int) : Bool := bits .and .u64 w 1 == 1
def slbS (w : Int) : Int := wr (Int.fdiv (IntKind.wrap .u8 (IntKind.wrap .u8 w * 16)) 16)
def slbP (w : Int) : Int := wr (Int.fdiv (IntKind.wrap .u16 w) 16)
def slbT (w : Int) : Int := Int.fdiv w 65536
def slabW (s p t : Int) : Int := bits .or .u64 (bits .or .u64 (wu (t * 65536)) (wu (IntKind.wrap .u16 (IntKind.wrap .u16 p * 16)))) (wu (Int.fdiv (IntKind.wrap .u8 (IntKind.wrap .u8 s * 16)) 16))
def entG (w : Int) : Int := Int.fdiv w 1048576
def entB (w : Int) : Int := wr (wr (IntKind.wrap .u16 (Int.fdiv w 16)) - 1)
def entS (w : Int) : Int := slbS w
def tickW (e g : Int) : Int := bits .or .u64 (wu (g * 65536)) (wu (IntKind.wrap .u16 (wr (e + 1))))
def annW (e : Int) (a : Bool) : Int := if a = true then bits .or .u64 (wu (e * 2)) 1 else wu (e * 2)
def hdP (w : Int) : Int := wr (wr (IntKind.wrap .u32 w) - 1)
def hdV (w : Int) : Int := Int.fdiv w 4294967296
def lowW (w : Int) : Int := wu (IntKind.wrap .u32 w)
def elineB (n : Int) : Bool := decide (n = 1 ∨ n = 2 ∨ n = 3 ∨ n = 70 ∨ n = 71 ∨ n = 72 ∨ n = 90)
/-- A contract whose result is told. -/
noncomputable def said {α : Type} (d : Cd El α) (f : α → AVal El) : GSpec El := ctr cx (tell d fun x => (True, f x, []))
abbrev aGBS : Cd El (Int × Int × Int) := .pair aU (.pair aI aI)
abbrev aSPT : Cd El (Int × Int × Int) := .pair aI (.pair aI aU)
abbrev aUB : Cd El (Int × Bool) := .pair aU .bool
noncomputable def ΓK : FuncId → Option (GSpec El) := addΓ (addΓ (addΓ (addΓ (addΓ (addΓ (addΓ (addΓ (addΓ (addΓ (addΓ (addΓ ΓPE
  16 (said aU fun w => .tup [.int .i64 (tkE w), .int .u64 (tkG w)]))
  47 (said aII fun x => .int .u64 (headW x.1 x.2)))
  48 (said aGBS fun x => .int .u64 (entryW x.1 x.2.1 x.2.2)))
  101 (said aU fun w => .tup [.int .u64 (annE w), .bool (annA w)]))
  107 (said aU fun w => .tup [.int .i64 (slbS w), .int .i64 (slbP w), .int .u64 (slbT w)]))
  111 (said aSPT fun x => .int .u64 (slabW x.1 x.2.1 x.2.2)))
  124 (said aU fun w => .tup [.int .u64 (entG w), .int .i64 (entB w), .int .i64 (entS w)]))
  125 (said aII fun x => .int .u64 (tickW x.1 x.2)))
  133 (said aUB fun x => .int .u64 (annW x.1 x.2)))
  147 (said aU fun w => .tup [.int .i64 (hdP w), .int .u64 (hdV w)]))
  136 (said aU fun w => .int .u64 (lowW w)))
  98 (said aI fun n => .bool (elineB n))
end Go.Proofs.YtaeepogbgflbpaaGreat
end

/- What the functions of package pack compute, printed. No condition. -/
section
set_option linter.unusedVariables false
set_option linter.unusedSimpArgs false
set_option maxRecDepth 100000
set_option maxHeartbeats 4000000
namespace Go.Proofs.YtaeepogbgflbpaaGreat
open Go Go.Ax

theorem vc_unticket (K : AVal El → Prop) (w : Int) : aexecF cnd cx noΓ noSpec 100 Tryz.f16 (codeOf Tryz.f16) (aU.enc w) [] (fun y _ => K y) = ( (0 : Int) ≤ (16 : Int) ∧ K (AVal.tup [AVal.int .i64 (wr
  (wr (IntKind.wrap IntKind.u16 w) - (1 : Int))), AVal.int .u64 (Int.fdiv w (65536 : Int))])) := by kernel_rfl

theorem vc_head (K : AVal El → Prop) (p v : Int) : aexecF cnd cx noΓ noSpec 100 Tryz.f47 (codeOf Tryz.f47) (aII.enc (p, v)) [] (fun y _ => K y) = ( (0 : Int) ≤ (32 : Int) ∧ K (AVal.int .u64 (bits
  BinOp.or IntKind.u64 (wu (v * (4294967296 : Int))) (wu (IntKind.wrap IntKind.u32 (wr (p + (1 : Int)))))))) := by kernel_rfl

theorem vc_entryw (K : AVal El → Prop) (g b s : Int) : aexecF cnd cx noΓ noSpec 100 Tryz.f48 (codeOf Tryz.f48) (Cd.enc (.pair aU (.pair aI aI)) (g, b, s)) [] (fun y _ =>
  K y) = ( (0 : Int) ≤ (20 : Int) ∧ (0 : Int) ≤ (4 : Int) ∧ (0 : Int) ≤ (4 : Int) ∧ (0 : Int) ≤ (4 : Int) ∧ K (AVal.int IntKind.u64 (bits BinOp.or IntKind.u64 (bits
  BinOp.or IntKind.u64 (IntKind.wrap IntKind.u64 (g * (1048576 : Int))) (IntKind.wrap IntKind.u64 (IntKind.wrap IntKind.u64 (IntKind.wrap IntKind.u16 (IntKind.wrap
  IntKind.i64 (b + (1 : Int)))) * (16 : Int)))) (IntKind.wrap IntKind.u64 (Int.fdiv (IntKind.wrap IntKind.u8 (IntKind.wrap IntKind.u8 s * (16 : Int))) (16 : Int)))))) := by
  kernel_rfl

theorem vc_unannounce (K : AVal El → Prop) (w : Int) : aexecF cnd cx noΓ noSpec 100 Tryz.f101 (codeOf Tryz.f101) (aU.enc w) [] (fun y _ => K y) = ( (0 : Int) ≤ (1 : Int) ∧ K (AVal.tup [AVal.int .u64
  (Int.fdiv w (2 : Int)), AVal.bool (bits BinOp.and IntKind.u64 w (1 : Int) == (1 : Int))])) := by kernel_rfl

theorem vc_unslab (K : AVal El → Prop) (w : Int) : aexecF cnd cx noΓ noSpec 100 Tryz.f107 (codeOf Tryz.f107) (aU.enc w) [] (fun y _ => K y) = ( (0 : Int) ≤ (4 : Int) ∧ (0 : Int) ≤ (4 : Int) ∧ (0 :
  Int) ≤ (4 : Int) ∧ (0 : Int) ≤ (16 : Int) ∧ K (AVal.tup [AVal.int .i64 (wr (Int.fdiv (IntKind.wrap IntKind.u8 (IntKind.wrap IntKind.u8 w * (16 : Int))) (16 : Int))), AVal.int .i64 (wr (Int.fdiv
  (IntKind.wrap IntKind.u16 w) (16 : Int))), AVal.int .u64 (Int.fdiv w (65536 : Int))])) := by kernel_rfl

theorem vc_slab' (K : AVal El → Prop) (s p t : Int) : aexecF cnd cx noΓ noSpec 100 Tryz.f111 (codeOf Tryz.f111) (Cd.enc (.pair aI (.pair aI aU)) (s, p, t)) [] (fun y _ =>
  K y) = ( (0 : Int) ≤ (16 : Int) ∧ (0 : Int) ≤ (4 : Int) ∧ (0 : Int) ≤ (4 : Int) ∧ (0 : Int) ≤ (4 : Int) ∧ K (AVal.int IntKind.u64 (bits BinOp.or IntKind.u64 (bits
  BinOp.or IntKind.u64 (IntKind.wrap IntKind.u64 (t * (65536 : Int))) (IntKind.wrap IntKind.u64 (IntKind.wrap IntKind.u16 (IntKind.wrap IntKind.u16 p * (16 : Int)))))
  (IntKind.wrap IntKind.u64 (Int.fdiv (IntKind.wrap IntKind.u8 (IntKind.wrap IntKind.u8 s * (16 : Int))) (16 : Int)))))) := by kernel_rfl

theorem vc_unentry (K : AVal El → Prop) (w : Int) : aexecF cnd cx noΓ noSpec 100 Tryz.f124 (codeOf Tryz.f124) (aU.enc w) [] (fun y _ => K y) = ( (0 : Int) ≤ (20 : Int) ∧ (0 : Int) ≤ (4 : Int) ∧ (0 :
  Int) ≤ (4 : Int) ∧ (0 : Int) ≤ (4 : Int) ∧ K (AVal.tup [AVal.int .u64 (Int.fdiv w (1048576 : Int)), AVal.int .i64 (wr (wr (IntKind.wrap IntKind.u16 (Int.fdiv w (16 : Int))) - (1 : Int))), AVal.int
  .i64 (wr (Int.fdiv (IntKind.wrap IntKind.u8 (IntKind.wrap IntKind.u8 w * (16 : Int))) (16 : Int)))])) := by kernel_rfl

theorem vc_ticket (K : AVal El → Prop) (e g : Int) : aexecF cnd cx noΓ noSpec 100 Tryz.f125 (codeOf Tryz.f125) (aII.enc (e, g)) [] (fun y _ => K y) = ( (0 : Int) ≤ (16 : Int) ∧ K (AVal.int .u64 (bits
  BinOp.or IntKind.u64 (wu (g * (65536 : Int))) (wu (IntKind.wrap IntKind.u16 (wr (e + (1 : Int)))))))) := by kernel_rfl

theorem vc_announce' (K : AVal El → Prop) (e : Int) (a : Bool) : aexecF cnd cx noΓ noSpec 100 Tryz.f133 (codeOf Tryz.f133) (Cd.enc (.pair aU .bool) (e, a)) [] (fun y _ =>
  K y) = ( cnd a ((0 : Int) ≤ (1 : Int) ∧ K (AVal.int IntKind.u64 (bits BinOp.or IntKind.u64 (IntKind.wrap IntKind.u64 (e * (2 : Int))) (1 : Int)))) ((0 : Int) ≤ (1 : Int)
  ∧ K (AVal.int IntKind.u64 (IntKind.wrap IntKind.u64 (e * (2 : Int)))))) := by kernel_rfl

theorem vc_unhead (K : AVal El → Prop) (w : Int) : aexecF cnd cx noΓ noSpec 100 Tryz.f147 (codeOf Tryz.f147) (aU.enc w) [] (fun y _ => K y) = ( (0 : Int) ≤ (32 : Int) ∧ K (AVal.tup [AVal.int .i64 (wr
  (wr (IntKind.wrap IntKind.u32 w) - (1 : Int))), AVal.int .u64 (Int.fdiv w (4294967296 : Int))])) := by kernel_rfl

theorem vc_low (K : AVal El → Prop) (w : Int) : aexecF cnd cx noΓ noSpec 100 Tryz.f136 (codeOf Tryz.f136) (aU.enc w) [] (fun y _ => K y) = ( K (AVal.int .u64 (wu (IntKind.wrap IntKind.u32 w)))) := by
  kernel_rfl

theorem vc_eline (K : AVal El → Prop) (n : Int) : aexecF cnd cx noΓ noSpec 100 Tryz.f98 (codeOf Tryz.f98) (aI.enc n) [] (fun y _ => K y) = ( cnd (n == (1 : Int)) (K (AVal.bool true)) (cnd (n == (2 :
  Int)) (K (AVal.bool true)) (cnd (n == (3 : Int)) (K (AVal.bool true)) (cnd (n == (70 : Int)) (K (AVal.bool true)) (cnd (n == (71 : Int)) (K (AVal.bool true)) (cnd (n == (72 : Int)) (K (AVal.bool
  true)) (cnd (n == (90 : Int)) (K (AVal.bool true)) (K (AVal.bool false))))))))) := by kernel_rfl

end Go.Proofs.YtaeepogbgflbpaaGreat
end

/- The contracts of package pack. No condition. -/
section
set_option linter.unusedVariables false
set_option linter.unusedSimpArgs false
set_option maxRecDepth 100000
set_option maxHeartbeats 1000000
namespace Go.Proofs.YtaeepogbgflbpaaGreat
open Go Go.Ax

theorem said_ok {Γ : FuncId → Option (GSpec El)} (hΓ : ∀ f g, Γ f = some g → GOk cx f g) {f : FuncId} {fn : Func} (hfn : Tryz.prog.funcs[f]? = some fn) (hb : fn.body.isSome = true)
    (henter : ∀ args w, (callFunc f args).run Tryz.prog w = .ok (.enter f args) w) {α : Type} {d : Cd El α} {t : α → AVal El} {n : Nat}
    (h : ∀ x, aexecF cnd cx Γ noSpec n fn (codeOf fn) (d.enc x) [] (fun y _ => y = t x)) : GOk cx f (said d t) :=
  tell_ctr hΓ hfn (body_of hb) henter (n := n) (fun x _ => by
    have := h x
    have e : (fun (y : AVal El) (R : List (Res El)) => y = t x ∧ matchR R []) = fun y _ => y = t x := by funext y R; simp [matchR]
    show aexecF cnd cx Γ noSpec n fn (codeOf fn) (d.enc x) [] (fun (y : AVal El) (R : List (Res El)) => y = t x ∧ matchR R [])
    rw [e]; exact this)
theorem ok16 : GOk cx 16 (said aU fun w => .tup [.int .i64 (tkE w), .int .u64 (tkG w)]) := said_ok (n := 100) noΓ_ok Tryz.func16 (by kernel_rfl) Tryz.call16 (fun w => by
  have e := vc_unticket (fun y => y = .tup [.int .i64 (tkE w), .int .u64 (tkG w)]) w
  exact Eq.mpr e ⟨by omega, rfl⟩)
theorem ok47 : GOk cx 47 (said aII fun x => .int .u64 (headW x.1 x.2)) := said_ok (n := 100) noΓ_ok Tryz.func47 (by kernel_rfl) Tryz.call47 (fun ⟨p, v⟩ => by
  have e := vc_head (fun y => y = .int .u64 (headW p v)) p v
  exact Eq.mpr e ⟨by omega, rfl⟩)
theorem ok48 : GOk cx 48 (said aGBS fun x => .int .u64 (entryW x.1 x.2.1 x.2.2)) := said_ok (n := 100) noΓ_ok Tryz.func48 (by kernel_rfl) Tryz.call48 (fun ⟨g, b, s⟩ => by
  have e := vc_entryw (fun y => y = .int .u64 (entryW g b s)) g b s
  exact Eq.mpr e ⟨by omega, by omega, by omega, by omega, rfl⟩)
theorem ok101 : GOk cx 101 (said aU fun w => .tup [.int .u64 (annE w), .bool (annA w)]) := said_ok (n := 100) noΓ_ok Tryz.func101 (by kernel_rfl) Tryz.call101 (fun w => by
  have e := vc_unannounce (fun y => y = .tup [.int .u64 (annE w), .bool (annA w)]) w
  exact Eq.mpr e ⟨by omega, rfl⟩)
theorem ok107 : GOk cx 107 (said aU fun w => .tup [.int .i64 (slbS w), .int .i64 (slbP w), .int .u64 (slbT w)]) := said_ok (n := 100) noΓ_ok Tryz.func107 (by kernel_rfl) Tryz.call107 (fun w => by
  have e := vc_unslab (fun y => y = .tup [.int .i64 (slbS w), .int .i64 (slbP w), .int .u64 (slbT w)]) w
  exact Eq.mpr e ⟨by omega, by omega, by omega, by omega, rfl⟩)
theorem ok111 : GOk cx 111 (said aSPT fun x => .int .u64 (slabW x.1 x.2.1 x.2.2)) := said_ok (n := 100) noΓ_ok Tryz.func111 (by kernel_rfl) Tryz.call111 (fun ⟨s, p, t⟩ => by
  have e := vc_slab' (fun y => y = .int .u64 (slabW s p t)) s p t
  exact Eq.mpr e ⟨by omega, by omega, by omega, by omega, rfl⟩)
theorem ok124 : GOk cx 124 (said aU fun w => .tup [.int .u64 (entG w), .int .i64 (entB w), .int .i64 (entS w)]) := said_ok (n := 100) noΓ_ok Tryz.func124 (by kernel_rfl) Tryz.call124 (fun w => by
  have e := vc_unentry (fun y => y = .tup [.int .u64 (entG w), .int .i64 (entB w), .int .i64 (entS w)]) w
  exact Eq.mpr e ⟨by omega, by omega, by omega, by omega, rfl⟩)
theorem ok125 : GOk cx 125 (said aII fun x => .int .u64 (tickW x.1 x.2)) := said_ok (n := 100) noΓ_ok Tryz.func125 (by kernel_rfl) Tryz.call125 (fun ⟨p, v⟩ => by
  have e := vc_ticket (fun y => y = .int .u64 (tickW p v)) p v
  exact Eq.mpr e ⟨by omega, rfl⟩)
theorem ok133 : GOk cx 133 (said aUB fun x => .int .u64 (annW x.1 x.2)) := said_ok (n := 100) noΓ_ok Tryz.func133 (by kernel_rfl) Tryz.call133 (fun ⟨x, a⟩ => by
  have e := vc_announce' (fun y => y = .int .u64 (annW x a)) x a
  refine Eq.mpr e (cnd_intro (fun h => ⟨by omega, ?_⟩) (fun h => ⟨by omega, ?_⟩)) <;> simp [annW, h])
theorem ok147 : GOk cx 147 (said aU fun w => .tup [.int .i64 (hdP w), .int .u64 (hdV w)]) := said_ok (n := 100) noΓ_ok Tryz.func147 (by kernel_rfl) Tryz.call147 (fun w => by
  have e := vc_unhead (fun y => y = .tup [.int .i64 (hdP w), .int .u64 (hdV w)]) w
  exact Eq.mpr e ⟨by omega, rfl⟩)
theorem ok136 : GOk cx 136 (said aU fun w => .int .u64 (lowW w)) := said_ok (n := 100) noΓ_ok Tryz.func136 (by kernel_rfl) Tryz.call136 (fun w => by
  have e := vc_low (fun y => y = .int .u64 (lowW w)) w
  exact Eq.mpr e rfl)
theorem ok98 : GOk cx 98 (said aI fun n => .bool (elineB n)) := said_ok (n := 100) noΓ_ok Tryz.func98 (by kernel_rfl) Tryz.call98 (fun n => by
  have e := vc_eline (fun y => y = .bool (elineB n)) n
  refine Eq.mpr e ?_
  repeat' (refine cnd_intro (fun h => ?_) (fun h => ?_))
  all_goals simp only [beq_iff_eq, beq_eq_false_iff_ne] at *
  all_goals simp_all [elineB])
theorem ΓK_ok : ∀ f g, ΓK f = some g → GOk cx f g :=
  addΓ_ok (addΓ_ok (addΓ_ok (addΓ_ok (addΓ_ok (addΓ_ok (addΓ_ok (addΓ_ok (addΓ_ok (addΓ_ok (addΓ_ok (addΓ_ok ΓPE_ok ok16) ok47) ok48) ok101) ok107) ok111) ok124) ok125) ok133) ok147) ok136) ok98
end Go.Proofs.YtaeepogbgflbpaaGreat
end

/- The tables under the step functions of the lower layers. No condition. -/
section
set_option linter.unusedVariables false
set_option linter.unusedSimpArgs false
set_option maxRecDepth 100000
namespace Go.Proofs.YtaeepogbgflbpaaGreat
open Go Go.Ax

/-- Two tables, the first before the second. -/
def orΓ (a b : FuncId → Option (GSpec El)) : FuncId → Option (GSpec El) := fun f => match a f with
  | some g => some g
  | none => b f
theorem orΓ_ok {a b : FuncId → Option (GSpec El)} (ha : ∀ f g, a f = some g → GOk cx f g) (hb : ∀ f g, b f = some g → GOk cx f g) : ∀ f g, orΓ a b f = some g → GOk cx f g := by
  intro f g h
  unfold orΓ at h
  split at h
  · cases h; rename_i h'; exact ha f _ h'
  · exact hb f g h
noncomputable def ΓM : FuncId → Option (GSpec El) := addΓ (addΓ (addΓ (addΓ (addΓ ΓK 63 gClear) 66 gLoad) 67 gStore) 103 gCas) 108 gAdd
theorem ΓM_ok : ∀ f g, ΓM f = some g → GOk cx f g := addΓ_ok (addΓ_ok (addΓ_ok (addΓ_ok (addΓ_ok ΓK_ok ok63) ok66) ok67) ok103) ok108
abbrev aWX : Cd El (Int × Wk) := .pair aI aWk
abbrev aSt : Cd El (Wk × Int × Bool) := .pair aWk (.pair aI .bool)
/-- Small functions of the layers, carried out in place. -/
noncomputable def ΓL : FuncId → Option (GSpec El) := addΓ (addΓ (addΓ (addΓ (addΓ (addΓ (addΓ (addΓ (addΓ ΓM 100 (inl cx ΓM 60 Tryz.f100 (codeOf Tryz.f100))) 99 (inl cx noΓ 60 Tryz.f99 (codeOf Tryz.f99))) 134 (inl cx noΓ 60 Tryz.f134 (codeOf Tryz.f134)))
  137 (inl cx ΓM 60 Tryz.f137 (codeOf Tryz.f137))) 135 (inl cx noΓ 60 Tryz.f135 (codeOf Tryz.f135))) 106 (inl cx noΓ 60 Tryz.f106 (codeOf Tryz.f106))) 113 (inl cx ΓM 60 Tryz.f113 (codeOf Tryz.f113))) 126 (inl cx ΓM 60 Tryz.f126 (codeOf Tryz.f126))) 123 (inl cx noΓ 60 Tryz.f123 (codeOf Tryz.f123))
theorem ΓL_ok : ∀ f g, ΓL f = some g → GOk cx f g := addΓ_ok (addΓ_ok (addΓ_ok (addΓ_ok (addΓ_ok (addΓ_ok (addΓ_ok (addΓ_ok (addΓ_ok ΓM_ok (inl_ok ΓM_ok Tryz.func100 (body_of (by kernel_rfl)) Tryz.call100 60))
  (inl_ok noΓ_ok Tryz.func99 (body_of (by kernel_rfl)) Tryz.call99 60)) (inl_ok noΓ_ok Tryz.func134 (body_of (by kernel_rfl)) Tryz.call134 60)) (inl_ok ΓM_ok Tryz.func137 (body_of (by kernel_rfl)) Tryz.call137 60))
  (inl_ok noΓ_ok Tryz.func135 (body_of (by kernel_rfl)) Tryz.call135 60)) (inl_ok noΓ_ok Tryz.func106 (body_of (by kernel_rfl)) Tryz.call106 60)) (inl_ok ΓM_ok Tryz.func113 (body_of (by kernel_rfl)) Tryz.call113 60))
  (inl_ok ΓM_ok Tryz.func126 (body_of (by kernel_rfl)) Tryz.call126 60)) (inl_ok noΓ_ok Tryz.func123 (body_of (by kernel_rfl)) Tryz.call123 60)
def readyB (w e : Int) : Bool := decide (slbS w = 0 ∨ slbS w = 3 ∧ 2 ≤ e ∧ slbT w ≤ wu (e - 2))
end Go.Proofs.YtaeepogbgflbpaaGreat
end

/- The tables of continuations, as values. No condition. -/
section
set_option linter.unusedVariables false
set_option linter.unusedSimpArgs false
set_option maxRecDepth 100000
namespace Go.Proofs.YtaeepogbgflbpaaGreat
open Go Go.Ax

def tabT : List (Res El) := [.mapC [
    .int .i64 1, .agg [.fn 71 [], .fn 72 [], .fn 72 []],
    .int .i64 2, .agg [.fn 71 [], .fn 72 [], .fn 72 []],
    .int .i64 3, .agg [.fn 71 [], .fn 72 [], .fn 72 []],
    .int .i64 90, .agg [.fn 71 [], .fn 73 [], .fn 73 []],
    .int .i64 70, .agg [.fn 71 [], .fn 104 [.ptr 6 0], .fn 104 [.ptr 7 0]],
    .int .i64 71, .agg [.fn 71 [], .fn 104 [.ptr 6 0], .fn 104 [.ptr 7 0]],
    .int .i64 72, .agg [.fn 71 [], .fn 104 [.ptr 6 0], .fn 104 [.ptr 7 0]],
    .int .i64 36, .agg [.fn 105 [.ptr 10 0], .fn 114 [.ptr 11 0], .fn 114 [.ptr 12 0]],
    .int .i64 37, .agg [.fn 105 [.ptr 10 0], .fn 114 [.ptr 11 0], .fn 114 [.ptr 12 0]],
    .int .i64 13, .agg [.fn 105 [.ptr 15 0], .fn 78 [], .fn 78 []],
    .int .i64 14, .agg [.fn 105 [.ptr 15 0], .fn 78 [], .fn 78 []],
    .int .i64 15, .agg [.fn 105 [.ptr 15 0], .fn 78 [], .fn 78 []],
    .int .i64 30, .agg [.fn 105 [.ptr 15 0], .fn 78 [], .fn 78 []],
    .int .i64 31, .agg [.fn 105 [.ptr 15 0], .fn 78 [], .fn 78 []],
    .int .i64 32, .agg [.fn 105 [.ptr 15 0], .fn 78 [], .fn 78 []],
    .int .i64 39, .agg [.fn 105 [.ptr 15 0], .fn 78 [], .fn 78 []],
    .int .i64 20, .agg [.fn 105 [.ptr 18 0], .fn 85 [], .fn 120 [.ptr 19 0]],
    .int .i64 21, .agg [.fn 105 [.ptr 18 0], .fn 85 [], .fn 120 [.ptr 19 0]],
    .int .i64 22, .agg [.fn 105 [.ptr 18 0], .fn 85 [], .fn 120 [.ptr 19 0]],
    .int .i64 40, .agg [.fn 105 [.ptr 18 0], .fn 85 [], .fn 120 [.ptr 19 0]],
    .int .i64 41, .agg [.fn 105 [.ptr 18 0], .fn 85 [], .fn 120 [.ptr 19 0]],
    .int .i64 23, .agg [.fn 105 [.ptr 22 0], .fn 85 [], .fn 85 []],
    .int .i64 24, .agg [.fn 105 [.ptr 22 0], .fn 85 [], .fn 85 []],
    .int .i64 25, .agg [.fn 105 [.ptr 22 0], .fn 85 [], .fn 85 []],
    .int .i64 42, .agg [.fn 105 [.ptr 25 0], .fn 127 [.ptr 26 0], .fn 120 [.ptr 27 0]],
    .int .i64 43, .agg [.fn 105 [.ptr 30 0], .fn 87 [], .fn 87 []],
    .int .i64 46, .agg [.fn 105 [.ptr 33 0], .fn 88 [], .fn 120 [.ptr 34 0]],
    .int .i64 44, .agg [.fn 105 [.ptr 37 0], .fn 127 [.ptr 38 0], .fn 120 [.ptr 39 0]],
    .int .i64 45, .agg [.fn 105 [.ptr 42 0], .fn 89 [], .fn 89 []],
    .int .i64 60, .agg [.fn 105 [.ptr 45 0], .fn 119 [.ptr 46 0], .fn 120 [.ptr 47 0]]], .dead, .dead, .dead, .dead, .dead, .cells 3 [.int .i64 73], .cells 3 [.int .i64 73], .dead, .dead, .cells 135 [.fn 76 []], .cells 39 [.int .i64 0], .cells 39 [.int .i64 9], .dead, .dead, .cells 135 [.fn 80 []], .dead, .dead, .cells 135 [.fn 84 []], .cells 39 [.int .i64 5], .dead, .dead, .cells 135 [.fn 84 []], .dead, .dead, .cells 135 [.fn 84 []], .cells 3 [.int .i64 43], .cells 39 [.int .i64 7], .dead, .dead, .cells 135 [.fn 84 []], .dead, .dead, .cells 135 [.fn 84 []], .cells 39 [.int .i64 7], .dead, .dead, .cells 135 [.fn 84 []], .cells 3 [.int .i64 45], .cells 39 [.int .i64 7], .dead, .dead, .cells 135 [.fn 84 []], .dead, .dead, .cells 135 [.fn 84 []], .cells 3 [.int .i64 61], .cells 39 [.int .i64 7], .dead, .dead]
def tabF : List (Res El) := [.mapC [
    .int .i64 1, .agg [.fn 71 [], .fn 72 [], .fn 72 []],
    .int .i64 2, .agg [.fn 71 [], .fn 72 [], .fn 72 []],
    .int .i64 3, .agg [.fn 71 [], .fn 72 [], .fn 72 []],
    .int .i64 90, .agg [.fn 71 [], .fn 73 [], .fn 73 []],
    .int .i64 70, .agg [.fn 71 [], .fn 104 [.ptr 6 0], .fn 104 [.ptr 7 0]],
    .int .i64 71, .agg [.fn 71 [], .fn 104 [.ptr 6 0], .fn 104 [.ptr 7 0]],
    .int .i64 72, .agg [.fn 71 [], .fn 104 [.ptr 6 0], .fn 104 [.ptr 7 0]],
    .int .i64 36, .agg [.fn 105 [.ptr 10 0], .fn 114 [.ptr 11 0], .fn 114 [.ptr 12 0]],
    .int .i64 37, .agg [.fn 105 [.ptr 10 0], .fn 114 [.ptr 11 0], .fn 114 [.ptr 12 0]],
    .int .i64 10, .agg [.fn 105 [.ptr 15 0], .fn 119 [.ptr 16 0], .fn 120 [.ptr 17 0]],
    .int .i64 11, .agg [.fn 105 [.ptr 15 0], .fn 119 [.ptr 16 0], .fn 120 [.ptr 17 0]],
    .int .i64 12, .agg [.fn 105 [.ptr 15 0], .fn 119 [.ptr 16 0], .fn 120 [.ptr 17 0]],
    .int .i64 30, .agg [.fn 105 [.ptr 15 0], .fn 119 [.ptr 16 0], .fn 120 [.ptr 17 0]],
    .int .i64 31, .agg [.fn 105 [.ptr 15 0], .fn 119 [.ptr 16 0], .fn 120 [.ptr 17 0]],
    .int .i64 32, .agg [.fn 105 [.ptr 15 0], .fn 119 [.ptr 16 0], .fn 120 [.ptr 17 0]],
    .int .i64 33, .agg [.fn 105 [.ptr 15 0], .fn 119 [.ptr 16 0], .fn 120 [.ptr 17 0]],
    .int .i64 34, .agg [.fn 105 [.ptr 15 0], .fn 119 [.ptr 16 0], .fn 120 [.ptr 17 0]],
    .int .i64 35, .agg [.fn 105 [.ptr 15 0], .fn 119 [.ptr 16 0], .fn 120 [.ptr 17 0]],
    .int .i64 38, .agg [.fn 105 [.ptr 15 0], .fn 119 [.ptr 16 0], .fn 120 [.ptr 17 0]],
    .int .i64 20, .agg [.fn 105 [.ptr 20 0], .fn 85 [], .fn 120 [.ptr 21 0]],
    .int .i64 21, .agg [.fn 105 [.ptr 20 0], .fn 85 [], .fn 120 [.ptr 21 0]],
    .int .i64 22, .agg [.fn 105 [.ptr 20 0], .fn 85 [], .fn 120 [.ptr 21 0]],
    .int .i64 40, .agg [.fn 105 [.ptr 20 0], .fn 85 [], .fn 120 [.ptr 21 0]],
    .int .i64 41, .agg [.fn 105 [.ptr 20 0], .fn 85 [], .fn 120 [.ptr 21 0]],
    .int .i64 23, .agg [.fn 105 [.ptr 24 0], .fn 85 [], .fn 85 []],
    .int .i64 24, .agg [.fn 105 [.ptr 24 0], .fn 85 [], .fn 85 []],
    .int .i64 25, .agg [.fn 105 [.ptr 24 0], .fn 85 [], .fn 85 []],
    .int .i64 42, .agg [.fn 105 [.ptr 27 0], .fn 127 [.ptr 28 0], .fn 120 [.ptr 29 0]],
    .int .i64 43, .agg [.fn 105 [.ptr 32 0], .fn 87 [], .fn 87 []],
    .int .i64 46, .agg [.fn 105 [.ptr 35 0], .fn 88 [], .fn 120 [.ptr 36 0]],
    .int .i64 44, .agg [.fn 105 [.ptr 39 0], .fn 127 [.ptr 40 0], .fn 120 [.ptr 41 0]],
    .int .i64 45, .agg [.fn 105 [.ptr 44 0], .fn 89 [], .fn 89 []],
    .int .i64 60, .agg [.fn 105 [.ptr 47 0], .fn 119 [.ptr 48 0], .fn 120 [.ptr 49 0]]], .dead, .dead, .dead, .dead, .dead, .cells 3 [.int .i64 73], .cells 3 [.int .i64 73], .dead, .dead, .cells 135 [.fn 76 []], .cells 39 [.int .i64 0], .cells 39 [.int .i64 9], .dead, .dead, .cells 135 [.fn 81 []], .cells 3 [.int .i64 50], .cells 39 [.int .i64 5], .dead, .dead, .cells 135 [.fn 84 []], .cells 39 [.int .i64 5], .dead, .dead, .cells 135 [.fn 84 []], .dead, .dead, .cells 135 [.fn 84 []], .cells 3 [.int .i64 43], .cells 39 [.int .i64 7], .dead, .dead, .cells 135 [.fn 84 []], .dead, .dead, .cells 135 [.fn 84 []], .cells 39 [.int .i64 7], .dead, .dead, .cells 135 [.fn 84 []], .cells 3 [.int .i64 45], .cells 39 [.int .i64 7], .dead, .dead, .cells 135 [.fn 84 []], .dead, .dead, .cells 135 [.fn 84 []], .cells 3 [.int .i64 61], .cells 39 [.int .i64 7], .dead, .dead]

def waysR : List (Res El) := [.dead, .dead, .dead, .mapC [
    .int .i64 10, .agg [.fn 116 [], .fn 138 [], .fn 139 []],
    .int .i64 11, .agg [.fn 116 [], .fn 138 [], .fn 139 []],
    .int .i64 12, .agg [.fn 116 [], .fn 138 [], .fn 139 []],
    .int .i64 35, .agg [.fn 76 [], .fn 143 [], .fn 144 []],
    .int .i64 30, .agg [.fn 76 [], .fn 140 [], .fn 140 []],
    .int .i64 31, .agg [.fn 76 [], .fn 140 [], .fn 140 []],
    .int .i64 32, .agg [.fn 76 [], .fn 140 [], .fn 140 []],
    .int .i64 33, .agg [.fn 76 [], .fn 141 [], .fn 142 []],
    .int .i64 34, .agg [.fn 76 [], .fn 141 [], .fn 142 []]]]
def tabR (b : Bool) : List (Res El) := match b with
  | true => tabT
  | false => tabF
noncomputable def gTable : GSpec El := ctr cx (tell (.bool : Cd El Bool) fun b => (True, .mapr 0, tabR b))
noncomputable def gWays : GSpec El := ctr cx (tell (.unit : Cd El Unit) fun _ => (True, .mapr 3, waysR))
theorem Γt_ok : ∀ f g, Γt f = some g → GOk cx f g := addΓ_ok (addΓ_ok (addΓ_ok (addΓ_ok (addΓ_ok (addΓ_ok (addΓ_ok noΓ_ok (inl_ok noΓ_ok Tryz.func70 (body_of (by kernel_rfl)) Tryz.call70 200)) (inl_ok noΓ_ok Tryz.func74 (body_of (by kernel_rfl)) Tryz.call74 60)) (inl_ok noΓ_ok Tryz.func75 (body_of (by kernel_rfl)) Tryz.call75 60))
  (inl_ok noΓ_ok Tryz.func77 (body_of (by kernel_rfl)) Tryz.call77 60)) (inl_ok noΓ_ok Tryz.func82 (body_of (by kernel_rfl)) Tryz.call82 60)) (inl_ok noΓ_ok Tryz.func83 (body_of (by kernel_rfl)) Tryz.call83 60)) (inl_ok noΓ_ok Tryz.func86 (body_of (by kernel_rfl)) Tryz.call86 60)
end Go.Proofs.YtaeepogbgflbpaaGreat
end

/- What the functions of the tables come to, printed. No condition. -/
section
set_option linter.unusedVariables false
set_option linter.unusedSimpArgs false
set_option maxRecDepth 100000
set_option maxHeartbeats 4000000
namespace Go.Proofs.YtaeepogbgflbpaaGreat
open Go Go.Ax

theorem vc_table (K : AVal El → List (Res El) → Prop) (b : Bool) : aexecF cnd cx Γt noSpec 400 Tryz.f54 (codeOf Tryz.f54) (Cd.enc (.bool : Cd El Bool) b) [] K = ( ((0 : Int) ≤ (0 : Int) ∧ (0 : Int) <
  (↑(3 : Nat) : Int)) ∧ (0 : Nat) < (3 : Nat) ∧ ((0 : Int) ≤ (1 : Int) ∧ (1 : Int) < (↑(3 : Nat) : Int)) ∧ (1 : Nat) < (3 : Nat) ∧ ((0 : Int) ≤ (2 : Int) ∧ (2 : Int) < (↑(3 : Nat) : Int)) ∧ (2 : Nat) <
  (3 : Nat) ∧ ((0 : Int) ≤ (0 : Int) ∧ (0 : Int) < (↑(1 : Nat) : Int)) ∧ (0 : Nat) < (1 : Nat) ∧ ((0 : Int) ≤ (0 : Int) ∧ (0 : Int) < (↑(3 : Nat) : Int)) ∧ (0 : Nat) < (3 : Nat) ∧ ((0 : Int) ≤ (1 : Int)
  ∧ (1 : Int) < (↑(3 : Nat) : Int)) ∧ (1 : Nat) < (3 : Nat) ∧ ((0 : Int) ≤ (2 : Int) ∧ (2 : Int) < (↑(3 : Nat) : Int)) ∧ (2 : Nat) < (3 : Nat) ∧ ((0 : Int) ≤ (0 : Int) ∧ (0 : Int) < (↑(2 : Nat) : Int))
  ∧ (0 : Nat) < (2 : Nat) ∧ ((0 : Int) ≤ (1 : Int) ∧ (1 : Int) < (↑(2 : Nat) : Int)) ∧ (1 : Nat) < (2 : Nat) ∧ cnd b (((0 : Int) ≤ (0 : Int) ∧ (0 : Int) < (↑(7 : Nat) : Int)) ∧ (0 : Nat) < (7 : Nat) ∧
  ((0 : Int) ≤ (1 : Int) ∧ (1 : Int) < (↑(7 : Nat) : Int)) ∧ (1 : Nat) < (7 : Nat) ∧ ((0 : Int) ≤ (2 : Int) ∧ (2 : Int) < (↑(7 : Nat) : Int)) ∧ (2 : Nat) < (7 : Nat) ∧ ((0 : Int) ≤ (3 : Int) ∧ (3 : Int)
  < (↑(7 : Nat) : Int)) ∧ (3 : Nat) < (7 : Nat) ∧ ((0 : Int) ≤ (4 : Int) ∧ (4 : Int) < (↑(7 : Nat) : Int)) ∧ (4 : Nat) < (7 : Nat) ∧ ((0 : Int) ≤ (5 : Int) ∧ (5 : Int) < (↑(7 : Nat) : Int)) ∧ (5 : Nat)
  < (7 : Nat) ∧ ((0 : Int) ≤ (6 : Int) ∧ (6 : Int) < (↑(7 : Nat) : Int)) ∧ (6 : Nat) < (7 : Nat) ∧ ((0 : Int) ≤ (0 : Int) ∧ (0 : Int) < (↑(5 : Nat) : Int)) ∧ (0 : Nat) < (5 : Nat) ∧ ((0 : Int) ≤ (1 :
  Int) ∧ (1 : Int) < (↑(5 : Nat) : Int)) ∧ (1 : Nat) < (5 : Nat) ∧ ((0 : Int) ≤ (2 : Int) ∧ (2 : Int) < (↑(5 : Nat) : Int)) ∧ (2 : Nat) < (5 : Nat) ∧ ((0 : Int) ≤ (3 : Int) ∧ (3 : Int) < (↑(5 : Nat) :
  Int)) ∧ (3 : Nat) < (5 : Nat) ∧ ((0 : Int) ≤ (4 : Int) ∧ (4 : Int) < (↑(5 : Nat) : Int)) ∧ (4 : Nat) < (5 : Nat) ∧ ((0 : Int) ≤ (0 : Int) ∧ (0 : Int) < (↑(3 : Nat) : Int)) ∧ (0 : Nat) < (3 : Nat) ∧
  ((0 : Int) ≤ (1 : Int) ∧ (1 : Int) < (↑(3 : Nat) : Int)) ∧ (1 : Nat) < (3 : Nat) ∧ ((0 : Int) ≤ (2 : Int) ∧ (2 : Int) < (↑(3 : Nat) : Int)) ∧ (2 : Nat) < (3 : Nat) ∧ ((0 : Int) ≤ (0 : Int) ∧ (0 : Int)
  < (↑(1 : Nat) : Int)) ∧ (0 : Nat) < (1 : Nat) ∧ ((0 : Int) ≤ (0 : Int) ∧ (0 : Int) < (↑(1 : Nat) : Int)) ∧ (0 : Nat) < (1 : Nat) ∧ ((0 : Int) ≤ (0 : Int) ∧ (0 : Int) < (↑(1 : Nat) : Int)) ∧ (0 : Nat)
  < (1 : Nat) ∧ ((0 : Int) ≤ (0 : Int) ∧ (0 : Int) < (↑(1 : Nat) : Int)) ∧ (0 : Nat) < (1 : Nat) ∧ ((0 : Int) ≤ (0 : Int) ∧ (0 : Int) < (↑(1 : Nat) : Int)) ∧ (0 : Nat) < (1 : Nat) ∧ ((0 : Int) ≤ (0 :
  Int) ∧ (0 : Int) < (↑(1 : Nat) : Int)) ∧ (0 : Nat) < (1 : Nat) ∧ K (AVal.mapr 0) [Res.mapC [AVal.int .i64 (List.getD [(1 : Int), (2 : Int), (3 : Int)] (0 : Nat) (0 : Int)), AVal.agg [AVal.fn 71 [],
  AVal.fn 72 [], AVal.fn 72 []], AVal.int .i64 (List.getD [(1 : Int), (2 : Int), (3 : Int)] (1 : Nat) (0 : Int)), AVal.agg [AVal.fn 71 [], AVal.fn 72 [], AVal.fn 72 []], AVal.int .i64 (List.getD [(1 :
  Int), (2 : Int), (3 : Int)] (2 : Nat) (0 : Int)), AVal.agg [AVal.fn 71 [], AVal.fn 72 [], AVal.fn 72 []], AVal.int .i64 (List.getD [(90 : Int)] (0 : Nat) (0 : Int)), AVal.agg [AVal.fn 71 [], AVal.fn
  73 [], AVal.fn 73 []], AVal.int .i64 (List.getD [(70 : Int), (71 : Int), (72 : Int)] (0 : Nat) (0 : Int)), AVal.agg [AVal.fn 71 [], AVal.fn 104 [AVal.ptr 6 0], AVal.fn 104 [AVal.ptr 7 0]], AVal.int
  .i64 (List.getD [(70 : Int), (71 : Int), (72 : Int)] (1 : Nat) (0 : Int)), AVal.agg [AVal.fn 71 [], AVal.fn 104 [AVal.ptr 6 0], AVal.fn 104 [AVal.ptr 7 0]], AVal.int .i64 (List.getD [(70 : Int), (71 :
  Int), (72 : Int)] (2 : Nat) (0 : Int)), AVal.agg [AVal.fn 71 [], AVal.fn 104 [AVal.ptr 6 0], AVal.fn 104 [AVal.ptr 7 0]], AVal.int .i64 (List.getD [(36 : Int), (37 : Int)] (0 : Nat) (0 : Int)),
  AVal.agg [AVal.fn 105 [AVal.ptr 10 0], AVal.fn 114 [AVal.ptr 11 0], AVal.fn 114 [AVal.ptr 12 0]], AVal.int .i64 (List.getD [(36 : Int), (37 : Int)] (1 : Nat) (0 : Int)), AVal.agg [AVal.fn 105
  [AVal.ptr 10 0], AVal.fn 114 [AVal.ptr 11 0], AVal.fn 114 [AVal.ptr 12 0]], AVal.int .i64 (List.getD [(13 : Int), (14 : Int), (15 : Int), (30 : Int), (31 : Int), (32 : Int), (39 : Int)] (0 : Nat) (0 :
  Int)), AVal.agg [AVal.fn 105 [AVal.ptr 15 0], AVal.fn 78 [], AVal.fn 78 []], AVal.int .i64 (List.getD [(13 : Int), (14 : Int), (15 : Int), (30 : Int), (31 : Int), (32 : Int), (39 : Int)] (1 : Nat) (0
  : Int)), AVal.agg [AVal.fn 105 [AVal.ptr 15 0], AVal.fn 78 [], AVal.fn 78 []], AVal.int .i64 (List.getD [(13 : Int), (14 : Int), (15 : Int), (30 : Int), (31 : Int), (32 : Int), (39 : Int)] (2 : Nat)
  (0 : Int)), AVal.agg [AVal.fn 105 [AVal.ptr 15 0], AVal.fn 78 [], AVal.fn 78 []], AVal.int .i64 (List.getD [(13 : Int), (14 : Int), (15 : Int), (30 : Int), (31 : Int), (32 : Int), (39 : Int)] (3 :
  Nat) (0 : Int)), AVal.agg [AVal.fn 105 [AVal.ptr 15 0], AVal.fn 78 [], AVal.fn 78 []], AVal.int .i64 (List.getD [(13 : Int), (14 : Int), (15 : Int), (30 : Int), (31 : Int), (32 : Int), (39 : Int)] (4
  : Nat) (0 : Int)), AVal.agg [AVal.fn 105 [AVal.ptr 15 0], AVal.fn 78 [], AVal.fn 78 []], AVal.int .i64 (List.getD [(13 : Int), (14 : Int), (15 : Int), (30 : Int), (31 : Int), (32 : Int), (39 : Int)]
  (5 : Nat) (0 : Int)), AVal.agg [AVal.fn 105 [AVal.ptr 15 0], AVal.fn 78 [], AVal.fn 78 []], AVal.int .i64 (List.getD [(13 : Int), (14 : Int), (15 : Int), (30 : Int), (31 : Int), (32 : Int), (39 :
  Int)] (6 : Nat) (0 : Int)), AVal.agg [AVal.fn 105 [AVal.ptr 15 0], AVal.fn 78 [], AVal.fn 78 []], AVal.int .i64 (List.getD [(20 : Int), (21 : Int), (22 : Int), (40 : Int), (41 : Int)] (0 : Nat) (0 :
  Int)), AVal.agg [AVal.fn 105 [AVal.ptr 18 0], AVal.fn 85 [], AVal.fn 120 [AVal.ptr 19 0]], AVal.int .i64 (List.getD [(20 : Int), (21 : Int), (22 : Int), (40 : Int), (41 : Int)] (1 : Nat) (0 : Int)),
  AVal.agg [AVal.fn 105 [AVal.ptr 18 0], AVal.fn 85 [], AVal.fn 120 [AVal.ptr 19 0]], AVal.int .i64 (List.getD [(20 : Int), (21 : Int), (22 : Int), (40 : Int), (41 : Int)] (2 : Nat) (0 : Int)), AVal.agg
  [AVal.fn 105 [AVal.ptr 18 0], AVal.fn 85 [], AVal.fn 120 [AVal.ptr 19 0]], AVal.int .i64 (List.getD [(20 : Int), (21 : Int), (22 : Int), (40 : Int), (41 : Int)] (3 : Nat) (0 : Int)), AVal.agg [AVal.fn
  105 [AVal.ptr 18 0], AVal.fn 85 [], AVal.fn 120 [AVal.ptr 19 0]], AVal.int .i64 (List.getD [(20 : Int), (21 : Int), (22 : Int), (40 : Int), (41 : Int)] (4 : Nat) (0 : Int)), AVal.agg [AVal.fn 105
  [AVal.ptr 18 0], AVal.fn 85 [], AVal.fn 120 [AVal.ptr 19 0]], AVal.int .i64 (List.getD [(23 : Int), (24 : Int), (25 : Int)] (0 : Nat) (0 : Int)), AVal.agg [AVal.fn 105 [AVal.ptr 22 0], AVal.fn 85 [],
  AVal.fn 85 []], AVal.int .i64 (List.getD [(23 : Int), (24 : Int), (25 : Int)] (1 : Nat) (0 : Int)), AVal.agg [AVal.fn 105 [AVal.ptr 22 0], AVal.fn 85 [], AVal.fn 85 []], AVal.int .i64 (List.getD [(23
  : Int), (24 : Int), (25 : Int)] (2 : Nat) (0 : Int)), AVal.agg [AVal.fn 105 [AVal.ptr 22 0], AVal.fn 85 [], AVal.fn 85 []], AVal.int .i64 (List.getD [(42 : Int)] (0 : Nat) (0 : Int)), AVal.agg
  [AVal.fn 105 [AVal.ptr 25 0], AVal.fn 127 [AVal.ptr 26 0], AVal.fn 120 [AVal.ptr 27 0]], AVal.int .i64 (List.getD [(43 : Int)] (0 : Nat) (0 : Int)), AVal.agg [AVal.fn 105 [AVal.ptr 30 0], AVal.fn 87
  [], AVal.fn 87 []], AVal.int .i64 (List.getD [(46 : Int)] (0 : Nat) (0 : Int)), AVal.agg [AVal.fn 105 [AVal.ptr 33 0], AVal.fn 88 [], AVal.fn 120 [AVal.ptr 34 0]], AVal.int .i64 (List.getD [(44 :
  Int)] (0 : Nat) (0 : Int)), AVal.agg [AVal.fn 105 [AVal.ptr 37 0], AVal.fn 127 [AVal.ptr 38 0], AVal.fn 120 [AVal.ptr 39 0]], AVal.int .i64 (List.getD [(45 : Int)] (0 : Nat) (0 : Int)), AVal.agg
  [AVal.fn 105 [AVal.ptr 42 0], AVal.fn 89 [], AVal.fn 89 []], AVal.int .i64 (List.getD [(60 : Int)] (0 : Nat) (0 : Int)), AVal.agg [AVal.fn 105 [AVal.ptr 45 0], AVal.fn 119 [AVal.ptr 46 0], AVal.fn 120
  [AVal.ptr 47 0]]], Res.cells 120 [AVal.mapr 0], Res.vec 3 [(1 : Int), (2 : Int), (3 : Int)], Res.cells 118 [AVal.fn 71 [], AVal.fn 72 [], AVal.fn 72 []], Res.vec 3 [(90 : Int)], Res.cells 118 [AVal.fn
  71 [], AVal.fn 73 [], AVal.fn 73 []], Res.cells 3 [AVal.int .i64 73], Res.cells 3 [AVal.int .i64 73], Res.vec 3 [(70 : Int), (71 : Int), (72 : Int)], Res.cells 118 [AVal.fn 71 [], AVal.fn 104
  [AVal.ptr 6 0], AVal.fn 104 [AVal.ptr 7 0]], Res.cells 135 [AVal.fn 76 []], Res.cells 39 [AVal.int .i64 0], Res.cells 39 [AVal.int .i64 9], Res.vec 3 [(36 : Int), (37 : Int)], Res.cells 118 [AVal.fn
  105 [AVal.ptr 10 0], AVal.fn 114 [AVal.ptr 11 0], AVal.fn 114 [AVal.ptr 12 0]], Res.cells 135 [AVal.fn 80 []], Res.vec 3 [(13 : Int), (14 : Int), (15 : Int), (30 : Int), (31 : Int), (32 : Int), (39 :
  Int)], Res.cells 118 [AVal.fn 105 [AVal.ptr 15 0], AVal.fn 78 [], AVal.fn 78 []], Res.cells 135 [AVal.fn 84 []], Res.cells 39 [AVal.int .i64 5], Res.vec 3 [(20 : Int), (21 : Int), (22 : Int), (40 :
  Int), (41 : Int)], Res.cells 118 [AVal.fn 105 [AVal.ptr 18 0], AVal.fn 85 [], AVal.fn 120 [AVal.ptr 19 0]], Res.cells 135 [AVal.fn 84 []], Res.vec 3 [(23 : Int), (24 : Int), (25 : Int)], Res.cells 118
  [AVal.fn 105 [AVal.ptr 22 0], AVal.fn 85 [], AVal.fn 85 []], Res.cells 135 [AVal.fn 84 []], Res.cells 3 [AVal.int .i64 43], Res.cells 39 [AVal.int .i64 7], Res.vec 3 [(42 : Int)], Res.cells 118
  [AVal.fn 105 [AVal.ptr 25 0], AVal.fn 127 [AVal.ptr 26 0], AVal.fn 120 [AVal.ptr 27 0]], Res.cells 135 [AVal.fn 84 []], Res.vec 3 [(43 : Int)], Res.cells 118 [AVal.fn 105 [AVal.ptr 30 0], AVal.fn 87
  [], AVal.fn 87 []], Res.cells 135 [AVal.fn 84 []], Res.cells 39 [AVal.int .i64 7], Res.vec 3 [(46 : Int)], Res.cells 118 [AVal.fn 105 [AVal.ptr 33 0], AVal.fn 88 [], AVal.fn 120 [AVal.ptr 34 0]],
  Res.cells 135 [AVal.fn 84 []], Res.cells 3 [AVal.int .i64 45], Res.cells 39 [AVal.int .i64 7], Res.vec 3 [(44 : Int)], Res.cells 118 [AVal.fn 105 [AVal.ptr 37 0], AVal.fn 127 [AVal.ptr 38 0], AVal.fn
  120 [AVal.ptr 39 0]], Res.cells 135 [AVal.fn 84 []], Res.vec 3 [(45 : Int)], Res.cells 118 [AVal.fn 105 [AVal.ptr 42 0], AVal.fn 89 [], AVal.fn 89 []], Res.cells 135 [AVal.fn 84 []], Res.cells 3
  [AVal.int .i64 61], Res.cells 39 [AVal.int .i64 7], Res.vec 3 [(60 : Int)], Res.cells 118 [AVal.fn 105 [AVal.ptr 45 0], AVal.fn 119 [AVal.ptr 46 0], AVal.fn 120 [AVal.ptr 47 0]]]) (((0 : Int) ≤ (0 :
  Int) ∧ (0 : Int) < (↑(10 : Nat) : Int)) ∧ (0 : Nat) < (10 : Nat) ∧ ((0 : Int) ≤ (1 : Int) ∧ (1 : Int) < (↑(10 : Nat) : Int)) ∧ (1 : Nat) < (10 : Nat) ∧ ((0 : Int) ≤ (2 : Int) ∧ (2 : Int) < (↑(10 :
  Nat) : Int)) ∧ (2 : Nat) < (10 : Nat) ∧ ((0 : Int) ≤ (3 : Int) ∧ (3 : Int) < (↑(10 : Nat) : Int)) ∧ (3 : Nat) < (10 : Nat) ∧ ((0 : Int) ≤ (4 : Int) ∧ (4 : Int) < (↑(10 : Nat) : Int)) ∧ (4 : Nat) < (10
  : Nat) ∧ ((0 : Int) ≤ (5 : Int) ∧ (5 : Int) < (↑(10 : Nat) : Int)) ∧ (5 : Nat) < (10 : Nat) ∧ ((0 : Int) ≤ (6 : Int) ∧ (6 : Int) < (↑(10 : Nat) : Int)) ∧ (6 : Nat) < (10 : Nat) ∧ ((0 : Int) ≤ (7 :
  Int) ∧ (7 : Int) < (↑(10 : Nat) : Int)) ∧ (7 : Nat) < (10 : Nat) ∧ ((0 : Int) ≤ (8 : Int) ∧ (8 : Int) < (↑(10 : Nat) : Int)) ∧ (8 : Nat) < (10 : Nat) ∧ ((0 : Int) ≤ (9 : Int) ∧ (9 : Int) < (↑(10 :
  Nat) : Int)) ∧ (9 : Nat) < (10 : Nat) ∧ ((0 : Int) ≤ (0 : Int) ∧ (0 : Int) < (↑(5 : Nat) : Int)) ∧ (0 : Nat) < (5 : Nat) ∧ ((0 : Int) ≤ (1 : Int) ∧ (1 : Int) < (↑(5 : Nat) : Int)) ∧ (1 : Nat) < (5 :
  Nat) ∧ ((0 : Int) ≤ (2 : Int) ∧ (2 : Int) < (↑(5 : Nat) : Int)) ∧ (2 : Nat) < (5 : Nat) ∧ ((0 : Int) ≤ (3 : Int) ∧ (3 : Int) < (↑(5 : Nat) : Int)) ∧ (3 : Nat) < (5 : Nat) ∧ ((0 : Int) ≤ (4 : Int) ∧ (4
  : Int) < (↑(5 : Nat) : Int)) ∧ (4 : Nat) < (5 : Nat) ∧ ((0 : Int) ≤ (0 : Int) ∧ (0 : Int) < (↑(3 : Nat) : Int)) ∧ (0 : Nat) < (3 : Nat) ∧ ((0 : Int) ≤ (1 : Int) ∧ (1 : Int) < (↑(3 : Nat) : Int)) ∧ (1
  : Nat) < (3 : Nat) ∧ ((0 : Int) ≤ (2 : Int) ∧ (2 : Int) < (↑(3 : Nat) : Int)) ∧ (2 : Nat) < (3 : Nat) ∧ ((0 : Int) ≤ (0 : Int) ∧ (0 : Int) < (↑(1 : Nat) : Int)) ∧ (0 : Nat) < (1 : Nat) ∧ ((0 : Int) ≤
  (0 : Int) ∧ (0 : Int) < (↑(1 : Nat) : Int)) ∧ (0 : Nat) < (1 : Nat) ∧ ((0 : Int) ≤ (0 : Int) ∧ (0 : Int) < (↑(1 : Nat) : Int)) ∧ (0 : Nat) < (1 : Nat) ∧ ((0 : Int) ≤ (0 : Int) ∧ (0 : Int) < (↑(1 :
  Nat) : Int)) ∧ (0 : Nat) < (1 : Nat) ∧ ((0 : Int) ≤ (0 : Int) ∧ (0 : Int) < (↑(1 : Nat) : Int)) ∧ (0 : Nat) < (1 : Nat) ∧ ((0 : Int) ≤ (0 : Int) ∧ (0 : Int) < (↑(1 : Nat) : Int)) ∧ (0 : Nat) < (1 :
  Nat) ∧ K (AVal.mapr 0) [Res.mapC [AVal.int .i64 (List.getD [(1 : Int), (2 : Int), (3 : Int)] (0 : Nat) (0 : Int)), AVal.agg [AVal.fn 71 [], AVal.fn 72 [], AVal.fn 72 []], AVal.int .i64 (List.getD [(1
  : Int), (2 : Int), (3 : Int)] (1 : Nat) (0 : Int)), AVal.agg [AVal.fn 71 [], AVal.fn 72 [], AVal.fn 72 []], AVal.int .i64 (List.getD [(1 : Int), (2 : Int), (3 : Int)] (2 : Nat) (0 : Int)), AVal.agg
  [AVal.fn 71 [], AVal.fn 72 [], AVal.fn 72 []], AVal.int .i64 (List.getD [(90 : Int)] (0 : Nat) (0 : Int)), AVal.agg [AVal.fn 71 [], AVal.fn 73 [], AVal.fn 73 []], AVal.int .i64 (List.getD [(70 : Int),
  (71 : Int), (72 : Int)] (0 : Nat) (0 : Int)), AVal.agg [AVal.fn 71 [], AVal.fn 104 [AVal.ptr 6 0], AVal.fn 104 [AVal.ptr 7 0]], AVal.int .i64 (List.getD [(70 : Int), (71 : Int), (72 : Int)] (1 : Nat)
  (0 : Int)), AVal.agg [AVal.fn 71 [], AVal.fn 104 [AVal.ptr 6 0], AVal.fn 104 [AVal.ptr 7 0]], AVal.int .i64 (List.getD [(70 : Int), (71 : Int), (72 : Int)] (2 : Nat) (0 : Int)), AVal.agg [AVal.fn 71
  [], AVal.fn 104 [AVal.ptr 6 0], AVal.fn 104 [AVal.ptr 7 0]], AVal.int .i64 (List.getD [(36 : Int), (37 : Int)] (0 : Nat) (0 : Int)), AVal.agg [AVal.fn 105 [AVal.ptr 10 0], AVal.fn 114 [AVal.ptr 11 0],
  AVal.fn 114 [AVal.ptr 12 0]], AVal.int .i64 (List.getD [(36 : Int), (37 : Int)] (1 : Nat) (0 : Int)), AVal.agg [AVal.fn 105 [AVal.ptr 10 0], AVal.fn 114 [AVal.ptr 11 0], AVal.fn 114 [AVal.ptr 12 0]],
  AVal.int .i64 (List.getD [(10 : Int), (11 : Int), (12 : Int), (30 : Int), (31 : Int), (32 : Int), (33 : Int), (34 : Int), (35 : Int), (38 : Int)] (0 : Nat) (0 : Int)), AVal.agg [AVal.fn 105 [AVal.ptr
  15 0], AVal.fn 119 [AVal.ptr 16 0], AVal.fn 120 [AVal.ptr 17 0]], AVal.int .i64 (List.getD [(10 : Int), (11 : Int), (12 : Int), (30 : Int), (31 : Int), (32 : Int), (33 : Int), (34 : Int), (35 : Int),
  (38 : Int)] (1 : Nat) (0 : Int)), AVal.agg [AVal.fn 105 [AVal.ptr 15 0], AVal.fn 119 [AVal.ptr 16 0], AVal.fn 120 [AVal.ptr 17 0]], AVal.int .i64 (List.getD [(10 : Int), (11 : Int), (12 : Int), (30 :
  Int), (31 : Int), (32 : Int), (33 : Int), (34 : Int), (35 : Int), (38 : Int)] (2 : Nat) (0 : Int)), AVal.agg [AVal.fn 105 [AVal.ptr 15 0], AVal.fn 119 [AVal.ptr 16 0], AVal.fn 120 [AVal.ptr 17 0]],
  AVal.int .i64 (List.getD [(10 : Int), (11 : Int), (12 : Int), (30 : Int), (31 : Int), (32 : Int), (33 : Int), (34 : Int), (35 : Int), (38 : Int)] (3 : Nat) (0 : Int)), AVal.agg [AVal.fn 105 [AVal.ptr
  15 0], AVal.fn 119 [AVal.ptr 16 0], AVal.fn 120 [AVal.ptr 17 0]], AVal.int .i64 (List.getD [(10 : Int), (11 : Int), (12 : Int), (30 : Int), (31 : Int), (32 : Int), (33 : Int), (34 : Int), (35 : Int),
  (38 : Int)] (4 : Nat) (0 : Int)), AVal.agg [AVal.fn 105 [AVal.ptr 15 0], AVal.fn 119 [AVal.ptr 16 0], AVal.fn 120 [AVal.ptr 17 0]], AVal.int .i64 (List.getD [(10 : Int), (11 : Int), (12 : Int), (30 :
  Int), (31 : Int), (32 : Int), (33 : Int), (34 : Int), (35 : Int), (38 : Int)] (5 : Nat) (0 : Int)), AVal.agg [AVal.fn 105 [AVal.ptr 15 0], AVal.fn 119 [AVal.ptr 16 0], AVal.fn 120 [AVal.ptr 17 0]],
  AVal.int .i64 (List.getD [(10 : Int), (11 : Int), (12 : Int), (30 : Int), (31 : Int), (32 : Int), (33 : Int), (34 : Int), (35 : Int), (38 : Int)] (6 : Nat) (0 : Int)), AVal.agg [AVal.fn 105 [AVal.ptr
  15 0], AVal.fn 119 [AVal.ptr 16 0], AVal.fn 120 [AVal.ptr 17 0]], AVal.int .i64 (List.getD [(10 : Int), (11 : Int), (12 : Int), (30 : Int), (31 : Int), (32 : Int), (33 : Int), (34 : Int), (35 : Int),
  (38 : Int)] (7 : Nat) (0 : Int)), AVal.agg [AVal.fn 105 [AVal.ptr 15 0], AVal.fn 119 [AVal.ptr 16 0], AVal.fn 120 [AVal.ptr 17 0]], AVal.int .i64 (List.getD [(10 : Int), (11 : Int), (12 : Int), (30 :
  Int), (31 : Int), (32 : Int), (33 : Int), (34 : Int), (35 : Int), (38 : Int)] (8 : Nat) (0 : Int)), AVal.agg [AVal.fn 105 [AVal.ptr 15 0], AVal.fn 119 [AVal.ptr 16 0], AVal.fn 120 [AVal.ptr 17 0]],
  AVal.int .i64 (List.getD [(10 : Int), (11 : Int), (12 : Int), (30 : Int), (31 : Int), (32 : Int), (33 : Int), (34 : Int), (35 : Int), (38 : Int)] (9 : Nat) (0 : Int)), AVal.agg [AVal.fn 105 [AVal.ptr
  15 0], AVal.fn 119 [AVal.ptr 16 0], AVal.fn 120 [AVal.ptr 17 0]], AVal.int .i64 (List.getD [(20 : Int), (21 : Int), (22 : Int), (40 : Int), (41 : Int)] (0 : Nat) (0 : Int)), AVal.agg [AVal.fn 105
  [AVal.ptr 20 0], AVal.fn 85 [], AVal.fn 120 [AVal.ptr 21 0]], AVal.int .i64 (List.getD [(20 : Int), (21 : Int), (22 : Int), (40 : Int), (41 : Int)] (1 : Nat) (0 : Int)), AVal.agg [AVal.fn 105
  [AVal.ptr 20 0], AVal.fn 85 [], AVal.fn 120 [AVal.ptr 21 0]], AVal.int .i64 (List.getD [(20 : Int), (21 : Int), (22 : Int), (40 : Int), (41 : Int)] (2 : Nat) (0 : Int)), AVal.agg [AVal.fn 105
  [AVal.ptr 20 0], AVal.fn 85 [], AVal.fn 120 [AVal.ptr 21 0]], AVal.int .i64 (List.getD [(20 : Int), (21 : Int), (22 : Int), (40 : Int), (41 : Int)] (3 : Nat) (0 : Int)), AVal.agg [AVal.fn 105
  [AVal.ptr 20 0], AVal.fn 85 [], AVal.fn 120 [AVal.ptr 21 0]], AVal.int .i64 (List.getD [(20 : Int), (21 : Int), (22 : Int), (40 : Int), (41 : Int)] (4 : Nat) (0 : Int)), AVal.agg [AVal.fn 105
  [AVal.ptr 20 0], AVal.fn 85 [], AVal.fn 120 [AVal.ptr 21 0]], AVal.int .i64 (List.getD [(23 : Int), (24 : Int), (25 : Int)] (0 : Nat) (0 : Int)), AVal.agg [AVal.fn 105 [AVal.ptr 24 0], AVal.fn 85 [],
  AVal.fn 85 []], AVal.int .i64 (List.getD [(23 : Int), (24 : Int), (25 : Int)] (1 : Nat) (0 : Int)), AVal.agg [AVal.fn 105 [AVal.ptr 24 0], AVal.fn 85 [], AVal.fn 85 []], AVal.int .i64 (List.getD [(23
  : Int), (24 : Int), (25 : Int)] (2 : Nat) (0 : Int)), AVal.agg [AVal.fn 105 [AVal.ptr 24 0], AVal.fn 85 [], AVal.fn 85 []], AVal.int .i64 (List.getD [(42 : Int)] (0 : Nat) (0 : Int)), AVal.agg
  [AVal.fn 105 [AVal.ptr 27 0], AVal.fn 127 [AVal.ptr 28 0], AVal.fn 120 [AVal.ptr 29 0]], AVal.int .i64 (List.getD [(43 : Int)] (0 : Nat) (0 : Int)), AVal.agg [AVal.fn 105 [AVal.ptr 32 0], AVal.fn 87
  [], AVal.fn 87 []], AVal.int .i64 (List.getD [(46 : Int)] (0 : Nat) (0 : Int)), AVal.agg [AVal.fn 105 [AVal.ptr 35 0], AVal.fn 88 [], AVal.fn 120 [AVal.ptr 36 0]], AVal.int .i64 (List.getD [(44 :
  Int)] (0 : Nat) (0 : Int)), AVal.agg [AVal.fn 105 [AVal.ptr 39 0], AVal.fn 127 [AVal.ptr 40 0], AVal.fn 120 [AVal.ptr 41 0]], AVal.int .i64 (List.getD [(45 : Int)] (0 : Nat) (0 : Int)), AVal.agg
  [AVal.fn 105 [AVal.ptr 44 0], AVal.fn 89 [], AVal.fn 89 []], AVal.int .i64 (List.getD [(60 : Int)] (0 : Nat) (0 : Int)), AVal.agg [AVal.fn 105 [AVal.ptr 47 0], AVal.fn 119 [AVal.ptr 48 0], AVal.fn 120
  [AVal.ptr 49 0]]], Res.cells 120 [AVal.mapr 0], Res.vec 3 [(1 : Int), (2 : Int), (3 : Int)], Res.cells 118 [AVal.fn 71 [], AVal.fn 72 [], AVal.fn 72 []], Res.vec 3 [(90 : Int)], Res.cells 118 [AVal.fn
  71 [], AVal.fn 73 [], AVal.fn 73 []], Res.cells 3 [AVal.int .i64 73], Res.cells 3 [AVal.int .i64 73], Res.vec 3 [(70 : Int), (71 : Int), (72 : Int)], Res.cells 118 [AVal.fn 71 [], AVal.fn 104
  [AVal.ptr 6 0], AVal.fn 104 [AVal.ptr 7 0]], Res.cells 135 [AVal.fn 76 []], Res.cells 39 [AVal.int .i64 0], Res.cells 39 [AVal.int .i64 9], Res.vec 3 [(36 : Int), (37 : Int)], Res.cells 118 [AVal.fn
  105 [AVal.ptr 10 0], AVal.fn 114 [AVal.ptr 11 0], AVal.fn 114 [AVal.ptr 12 0]], Res.cells 135 [AVal.fn 81 []], Res.cells 3 [AVal.int .i64 50], Res.cells 39 [AVal.int .i64 5], Res.vec 3 [(10 : Int),
  (11 : Int), (12 : Int), (30 : Int), (31 : Int), (32 : Int), (33 : Int), (34 : Int), (35 : Int), (38 : Int)], Res.cells 118 [AVal.fn 105 [AVal.ptr 15 0], AVal.fn 119 [AVal.ptr 16 0], AVal.fn 120
  [AVal.ptr 17 0]], Res.cells 135 [AVal.fn 84 []], Res.cells 39 [AVal.int .i64 5], Res.vec 3 [(20 : Int), (21 : Int), (22 : Int), (40 : Int), (41 : Int)], Res.cells 118 [AVal.fn 105 [AVal.ptr 20 0],
  AVal.fn 85 [], AVal.fn 120 [AVal.ptr 21 0]], Res.cells 135 [AVal.fn 84 []], Res.vec 3 [(23 : Int), (24 : Int), (25 : Int)], Res.cells 118 [AVal.fn 105 [AVal.ptr 24 0], AVal.fn 85 [], AVal.fn 85 []],
  Res.cells 135 [AVal.fn 84 []], Res.cells 3 [AVal.int .i64 43], Res.cells 39 [AVal.int .i64 7], Res.vec 3 [(42 : Int)], Res.cells 118 [AVal.fn 105 [AVal.ptr 27 0], AVal.fn 127 [AVal.ptr 28 0], AVal.fn
  120 [AVal.ptr 29 0]], Res.cells 135 [AVal.fn 84 []], Res.vec 3 [(43 : Int)], Res.cells 118 [AVal.fn 105 [AVal.ptr 32 0], AVal.fn 87 [], AVal.fn 87 []], Res.cells 135 [AVal.fn 84 []], Res.cells 39
  [AVal.int .i64 7], Res.vec 3 [(46 : Int)], Res.cells 118 [AVal.fn 105 [AVal.ptr 35 0], AVal.fn 88 [], AVal.fn 120 [AVal.ptr 36 0]], Res.cells 135 [AVal.fn 84 []], Res.cells 3 [AVal.int .i64 45],
  Res.cells 39 [AVal.int .i64 7], Res.vec 3 [(44 : Int)], Res.cells 118 [AVal.fn 105 [AVal.ptr 39 0], AVal.fn 127 [AVal.ptr 40 0], AVal.fn 120 [AVal.ptr 41 0]], Res.cells 135 [AVal.fn 84 []], Res.vec 3
  [(45 : Int)], Res.cells 118 [AVal.fn 105 [AVal.ptr 44 0], AVal.fn 89 [], AVal.fn 89 []], Res.cells 135 [AVal.fn 84 []], Res.cells 3 [AVal.int .i64 61], Res.cells 39 [AVal.int .i64 7], Res.vec 3 [(60 :
  Int)], Res.cells 118 [AVal.fn 105 [AVal.ptr 47 0], AVal.fn 119 [AVal.ptr 48 0], AVal.fn 120 [AVal.ptr 49 0]]])) := by kernel_rfl

theorem vc_ways (K : AVal El → List (Res El) → Prop) : aexecF cnd cx noΓ noSpec 400 Tryz.f118 (codeOf Tryz.f118) [] [] K = ( K (AVal.mapr 3) [Res.cells 158 [AVal.fn 116 [], AVal.fn 138 [], AVal.fn 139
  []], Res.cells 158 [AVal.fn 76 [], AVal.fn 140 [], AVal.fn 140 []], Res.cells 158 [AVal.fn 76 [], AVal.fn 141 [], AVal.fn 142 []], Res.mapC [AVal.int .i64 10, AVal.agg [AVal.fn 116 [], AVal.fn 138 [],
  AVal.fn 139 []], AVal.int .i64 11, AVal.agg [AVal.fn 116 [], AVal.fn 138 [], AVal.fn 139 []], AVal.int .i64 12, AVal.agg [AVal.fn 116 [], AVal.fn 138 [], AVal.fn 139 []], AVal.int .i64 35, AVal.agg
  [AVal.fn 76 [], AVal.fn 143 [], AVal.fn 144 []], AVal.int .i64 30, AVal.agg [AVal.fn 76 [], AVal.fn 140 [], AVal.fn 140 []], AVal.int .i64 31, AVal.agg [AVal.fn 76 [], AVal.fn 140 [], AVal.fn 140 []],
  AVal.int .i64 32, AVal.agg [AVal.fn 76 [], AVal.fn 140 [], AVal.fn 140 []], AVal.int .i64 33, AVal.agg [AVal.fn 76 [], AVal.fn 141 [], AVal.fn 142 []], AVal.int .i64 34, AVal.agg [AVal.fn 76 [],
  AVal.fn 141 [], AVal.fn 142 []]]]) := by kernel_rfl


end Go.Proofs.YtaeepogbgflbpaaGreat
end

/- The contracts of the tables. No condition. -/
section
set_option linter.unusedVariables false
set_option linter.unusedSimpArgs false
set_option maxRecDepth 100000
set_option maxHeartbeats 1000000
namespace Go.Proofs.YtaeepogbgflbpaaGreat
open Go Go.Ax

theorem ok54 : GOk cx 54 gTable := tell_ctrD Γt_ok Tryz.func54 (body_of (by kernel_rfl)) Tryz.call54 (fun b _ => ⟨noSpec, 400, by
  have e := vc_table (fun y R => y = .mapr 0 ∧ matchD R (tabR b)) b
  refine Eq.mpr e ?_
  repeat' first
    | refine And.intro (And.intro (by decide) (by decide)) ?_
    | refine And.intro (by decide) ?_
    | refine cnd_intro (fun h => ?_) (fun h => ?_)
  all_goals (subst h; refine ⟨rfl, ?_⟩; simp only [tabR, tabT, tabF, matchD, true_and, and_true]; try rfl)⟩)
theorem ok118 : GOk cx 118 gWays := tell_ctrD noΓ_ok Tryz.func118 (body_of (by kernel_rfl)) Tryz.call118 (fun _ _ => ⟨noSpec, 400, by
  have e := vc_ways (fun y R => y = .mapr 3 ∧ matchD R waysR)
  refine Eq.mpr e ⟨rfl, ?_⟩
  simp only [waysR, matchD, and_true]⟩)
end Go.Proofs.YtaeepogbgflbpaaGreat
end

/- The table of the shapes of operations, as a value; what the functions of package oper compute. No condition. -/
section
set_option linter.unusedVariables false
set_option linter.unusedSimpArgs false
set_option maxRecDepth 100000
namespace Go.Proofs.YtaeepogbgflbpaaGreat
open Go Go.Ax

def shapesR : List (Res El) := [.mapC [
    .int .i64 1, .agg [.str (ByteArray.mk #[112, 105, 110]), .bool false, .bool false, .bool false],
    .int .i64 2, .agg [.str (ByteArray.mk #[117, 110, 112, 105, 110]), .bool false, .bool false, .bool false],
    .int .i64 7, .agg [.str (ByteArray.mk #[112, 101, 101, 107]), .bool false, .bool false, .bool false],
    .int .i64 8, .agg [.str (ByteArray.mk #[99, 111, 108, 108, 101, 99, 116]), .bool false, .bool false, .bool false],
    .int .i64 3, .agg [.str (ByteArray.mk #[97, 108, 108, 111, 99]), .bool false, .bool true, .bool false],
    .int .i64 4, .agg [.str (ByteArray.mk #[102, 114, 101, 101]), .bool true, .bool false, .bool false],
    .int .i64 6, .agg [.str (ByteArray.mk #[100, 101, 114, 101, 102]), .bool true, .bool false, .bool false],
    .int .i64 5, .agg [.str (ByteArray.mk #[119, 114, 105, 116, 101]), .bool true, .bool true, .bool false],
    .int .i64 9, .agg [.str (ByteArray.mk #[100, 114, 97, 105, 110]), .bool false, .bool false, .bool true]]]
noncomputable def gShapes : GSpec El := ctr cx (tell (.unit : Cd El Unit) fun _ => (True, .mapr 0, shapesR))
noncomputable def ΓO0 : FuncId → Option (GSpec El) := addΓ noΓ 35 gShapes
def asks (k : Int) : Bool := decide (k = 4 ∨ k = 5 ∨ k = 6)
def rightB (o : OpD) : Bool := decide (1 ≤ o.k ∧ o.k ≤ 9 ∧ 0 ≤ o.b ∧ 0 ≤ o.n ∧ 0 ≤ o.s ∧ (asks o.k = true ∧ o.u = true → o.t = 0) ∧ (¬ (asks o.k = true ∧ o.u = true) → o.u = false ∧ o.b = 0 ∧ o.n = 0) ∧ (asks o.k = false → o.t = 0) ∧
  (o.k ≠ 3 ∧ o.k ≠ 5 → o.x = 0) ∧ (o.k ≠ 9 → o.s = 0))
end Go.Proofs.YtaeepogbgflbpaaGreat
end

/- What the functions of package oper come to, printed. No condition. -/
section
set_option linter.unusedVariables false
set_option linter.unusedSimpArgs false
set_option maxRecDepth 100000
set_option maxHeartbeats 4000000
namespace Go.Proofs.YtaeepogbgflbpaaGreat
open Go Go.Ax

theorem vc_shapes (K : AVal El → List (Res El) → Prop) : aexecF cnd cx noΓ noSpec 400 Tryz.f35 (codeOf Tryz.f35) [] [] K = ( K (AVal.mapr 0) [Res.mapC [AVal.int .i64 1, AVal.agg [AVal.str
  (ByteArray.mk #[(112 : UInt8), (105 : UInt8), (110 : UInt8)]), AVal.bool false, AVal.bool false, AVal.bool false], AVal.int .i64 2, AVal.agg [AVal.str (ByteArray.mk #[(117 : UInt8), (110 : UInt8),
  (112 : UInt8), (105 : UInt8), (110 : UInt8)]), AVal.bool false, AVal.bool false, AVal.bool false], AVal.int .i64 7, AVal.agg [AVal.str (ByteArray.mk #[(112 : UInt8), (101 : UInt8), (101 : UInt8), (107
  : UInt8)]), AVal.bool false, AVal.bool false, AVal.bool false], AVal.int .i64 8, AVal.agg [AVal.str (ByteArray.mk #[(99 : UInt8), (111 : UInt8), (108 : UInt8), (108 : UInt8), (101 : UInt8), (99 :
  UInt8), (116 : UInt8)]), AVal.bool false, AVal.bool false, AVal.bool false], AVal.int .i64 3, AVal.agg [AVal.str (ByteArray.mk #[(97 : UInt8), (108 : UInt8), (108 : UInt8), (111 : UInt8), (99 :
  UInt8)]), AVal.bool false, AVal.bool true, AVal.bool false], AVal.int .i64 4, AVal.agg [AVal.str (ByteArray.mk #[(102 : UInt8), (114 : UInt8), (101 : UInt8), (101 : UInt8)]), AVal.bool true, AVal.bool
  false, AVal.bool false], AVal.int .i64 6, AVal.agg [AVal.str (ByteArray.mk #[(100 : UInt8), (101 : UInt8), (114 : UInt8), (101 : UInt8), (102 : UInt8)]), AVal.bool true, AVal.bool false, AVal.bool
  false], AVal.int .i64 5, AVal.agg [AVal.str (ByteArray.mk #[(119 : UInt8), (114 : UInt8), (105 : UInt8), (116 : UInt8), (101 : UInt8)]), AVal.bool true, AVal.bool true, AVal.bool false], AVal.int .i64
  9, AVal.agg [AVal.str (ByteArray.mk #[(100 : UInt8), (114 : UInt8), (97 : UInt8), (105 : UInt8), (110 : UInt8)]), AVal.bool false, AVal.bool false, AVal.bool true]]]) := by kernel_rfl

theorem vc_right (K : AVal El → Prop) (o : OpD) : aexecF cnd cx ΓO0 noSpec 200 Tryz.f22 (codeOf Tryz.f22) (Cd.enc (Cd.agg cdOp) o) [] (fun y _ => K y) = ( True ∧ True ∧ cnd (o.k == (1 : Int)) (cnd
  ((o.k == o.k && ((0 : Int) == o.t && ((0 : Int) == o.x && ((0 : Int) == o.s && (false == o.u && ((0 : Int) == o.b && ((0 : Int) == o.n && true))))))) == true) (cnd (decide (o.b ≥ (0 : Int)) == true)
  (cnd (decide (o.n ≥ (0 : Int)) == true) (K (AVal.bool (decide (o.s ≥ (0 : Int))))) (K (AVal.bool false))) (K (AVal.bool false))) (K (AVal.bool false))) (cnd (o.k == (2 : Int)) (cnd ((o.k == o.k && ((0
  : Int) == o.t && ((0 : Int) == o.x && ((0 : Int) == o.s && (false == o.u && ((0 : Int) == o.b && ((0 : Int) == o.n && true))))))) == true) (cnd (decide (o.b ≥ (0 : Int)) == true) (cnd (decide (o.n ≥
  (0 : Int)) == true) (K (AVal.bool (decide (o.s ≥ (0 : Int))))) (K (AVal.bool false))) (K (AVal.bool false))) (K (AVal.bool false))) (cnd (o.k == (7 : Int)) (cnd ((o.k == o.k && ((0 : Int) == o.t &&
  ((0 : Int) == o.x && ((0 : Int) == o.s && (false == o.u && ((0 : Int) == o.b && ((0 : Int) == o.n && true))))))) == true) (cnd (decide (o.b ≥ (0 : Int)) == true) (cnd (decide (o.n ≥ (0 : Int)) ==
  true) (K (AVal.bool (decide (o.s ≥ (0 : Int))))) (K (AVal.bool false))) (K (AVal.bool false))) (K (AVal.bool false))) (cnd (o.k == (8 : Int)) (cnd ((o.k == o.k && ((0 : Int) == o.t && ((0 : Int) ==
  o.x && ((0 : Int) == o.s && (false == o.u && ((0 : Int) == o.b && ((0 : Int) == o.n && true))))))) == true) (cnd (decide (o.b ≥ (0 : Int)) == true) (cnd (decide (o.n ≥ (0 : Int)) == true) (K
  (AVal.bool (decide (o.s ≥ (0 : Int))))) (K (AVal.bool false))) (K (AVal.bool false))) (K (AVal.bool false))) (cnd (o.k == (3 : Int)) (cnd ((o.k == o.k && ((0 : Int) == o.t && (o.x == o.x && ((0 : Int)
  == o.s && (false == o.u && ((0 : Int) == o.b && ((0 : Int) == o.n && true))))))) == true) (cnd (decide (o.b ≥ (0 : Int)) == true) (cnd (decide (o.n ≥ (0 : Int)) == true) (K (AVal.bool (decide (o.s ≥
  (0 : Int))))) (K (AVal.bool false))) (K (AVal.bool false))) (K (AVal.bool false))) (cnd (o.k == (4 : Int)) (cnd o.u (cnd ((o.k == o.k && ((0 : Int) == o.t && ((0 : Int) == o.x && ((0 : Int) == o.s &&
  (true == o.u && (o.b == o.b && (o.n == o.n && true))))))) == true) (cnd (decide (o.b ≥ (0 : Int)) == true) (cnd (decide (o.n ≥ (0 : Int)) == true) (K (AVal.bool (decide (o.s ≥ (0 : Int))))) (K
  (AVal.bool false))) (K (AVal.bool false))) (K (AVal.bool false))) (cnd ((o.k == o.k && (o.t == o.t && ((0 : Int) == o.x && ((0 : Int) == o.s && (false == o.u && ((0 : Int) == o.b && ((0 : Int) == o.n
  && true))))))) == true) (cnd (decide (o.b ≥ (0 : Int)) == true) (cnd (decide (o.n ≥ (0 : Int)) == true) (K (AVal.bool (decide (o.s ≥ (0 : Int))))) (K (AVal.bool false))) (K (AVal.bool false))) (K
  (AVal.bool false)))) (cnd (o.k == (6 : Int)) (cnd o.u (cnd ((o.k == o.k && ((0 : Int) == o.t && ((0 : Int) == o.x && ((0 : Int) == o.s && (true == o.u && (o.b == o.b && (o.n == o.n && true))))))) ==
  true) (cnd (decide (o.b ≥ (0 : Int)) == true) (cnd (decide (o.n ≥ (0 : Int)) == true) (K (AVal.bool (decide (o.s ≥ (0 : Int))))) (K (AVal.bool false))) (K (AVal.bool false))) (K (AVal.bool false)))
  (cnd ((o.k == o.k && (o.t == o.t && ((0 : Int) == o.x && ((0 : Int) == o.s && (false == o.u && ((0 : Int) == o.b && ((0 : Int) == o.n && true))))))) == true) (cnd (decide (o.b ≥ (0 : Int)) == true)
  (cnd (decide (o.n ≥ (0 : Int)) == true) (K (AVal.bool (decide (o.s ≥ (0 : Int))))) (K (AVal.bool false))) (K (AVal.bool false))) (K (AVal.bool false)))) (cnd (o.k == (5 : Int)) (cnd o.u (cnd ((o.k ==
  o.k && ((0 : Int) == o.t && (o.x == o.x && ((0 : Int) == o.s && (true == o.u && (o.b == o.b && (o.n == o.n && true))))))) == true) (cnd (decide (o.b ≥ (0 : Int)) == true) (cnd (decide (o.n ≥ (0 :
  Int)) == true) (K (AVal.bool (decide (o.s ≥ (0 : Int))))) (K (AVal.bool false))) (K (AVal.bool false))) (K (AVal.bool false))) (cnd ((o.k == o.k && (o.t == o.t && (o.x == o.x && ((0 : Int) == o.s &&
  (false == o.u && ((0 : Int) == o.b && ((0 : Int) == o.n && true))))))) == true) (cnd (decide (o.b ≥ (0 : Int)) == true) (cnd (decide (o.n ≥ (0 : Int)) == true) (K (AVal.bool (decide (o.s ≥ (0 :
  Int))))) (K (AVal.bool false))) (K (AVal.bool false))) (K (AVal.bool false)))) (cnd (o.k == (9 : Int)) (cnd ((o.k == o.k && ((0 : Int) == o.t && ((0 : Int) == o.x && (o.s == o.s && (false == o.u &&
  ((0 : Int) == o.b && ((0 : Int) == o.n && true))))))) == true) (cnd (decide (o.b ≥ (0 : Int)) == true) (cnd (decide (o.n ≥ (0 : Int)) == true) (K (AVal.bool (decide (o.s ≥ (0 : Int))))) (K (AVal.bool
  false))) (K (AVal.bool false))) (K (AVal.bool false))) (K (AVal.bool false))))))))))) := by kernel_rfl

theorem vc_asks (K : AVal El → Prop) (o : OpD) : aexecF cnd cx ΓO0 noSpec 200 Tryz.f60 (codeOf Tryz.f60) (Cd.enc (Cd.agg cdOp) o) [] (fun y _ => K y) = ( True ∧ True ∧ cnd (o.k == (1 : Int)) (K
  (AVal.bool false)) (cnd (o.k == (2 : Int)) (K (AVal.bool false)) (cnd (o.k == (7 : Int)) (K (AVal.bool false)) (cnd (o.k == (8 : Int)) (K (AVal.bool false)) (cnd (o.k == (3 : Int)) (K (AVal.bool
  false)) (cnd (o.k == (4 : Int)) (K (AVal.bool true)) (cnd (o.k == (6 : Int)) (K (AVal.bool true)) (cnd (o.k == (5 : Int)) (K (AVal.bool true)) (cnd (o.k == (9 : Int)) (K (AVal.bool false)) (K
  (AVal.bool false))))))))))) := by kernel_rfl

theorem vc_shares (K : AVal El → Prop) (o : OpD) : aexecF cnd cx (addΓ noΓ 60 (said (Cd.agg cdOp) fun o => .bool (asks o.k))) noSpec 200 Tryz.f115 (codeOf Tryz.f115) (Cd.enc (Cd.agg cdOp) o) [] (fun y
  _ => K y) = ( cnd ((o.k == (3 : Int)) == false) (True ∧ K (AVal.bool (asks o.k))) (K (AVal.bool true))) := by kernel_rfl

end Go.Proofs.YtaeepogbgflbpaaGreat
end

/- The contracts of package oper. No condition. -/
section
set_option linter.unusedVariables false
set_option linter.unusedSimpArgs false
set_option maxRecDepth 100000
set_option maxHeartbeats 1000000
namespace Go.Proofs.YtaeepogbgflbpaaGreat
open Go Go.Ax

theorem ok35 : GOk cx 35 gShapes := tell_ctrD noΓ_ok Tryz.func35 (body_of (by kernel_rfl)) Tryz.call35 (fun _ _ => ⟨noSpec, 400, by
  have e := vc_shapes (fun y R => y = .mapr 0 ∧ matchD R shapesR)
  refine Eq.mpr e ⟨rfl, ?_⟩
  simp only [shapesR, matchD, and_true]⟩)
theorem ΓO0_ok : ∀ f g, ΓO0 f = some g → GOk cx f g := addΓ_ok noΓ_ok ok35
abbrev aOp : Cd El OpD := Cd.agg cdOp
theorem ok60 : GOk cx 60 (said aOp fun o => .bool (asks o.k)) := said_ok (n := 200) ΓO0_ok Tryz.func60 (by kernel_rfl) Tryz.call60 (fun o => by
  have e := vc_asks (fun y => y = .bool (asks o.k)) o
  refine Eq.mpr e ⟨trivial, trivial, ?_⟩
  repeat' (refine cnd_intro (fun h => ?_) (fun h => ?_))
  all_goals simp only [beq_iff_eq, beq_eq_false_iff_ne] at *
  all_goals simp_all [asks])
noncomputable def ΓO1 : FuncId → Option (GSpec El) := addΓ noΓ 60 (said aOp fun o => .bool (asks o.k))
theorem ΓO1_ok : ∀ f g, ΓO1 f = some g → GOk cx f g := addΓ_ok noΓ_ok ok60
def shares (k : Int) : Bool := decide (k = 3 ∨ k = 4 ∨ k = 5 ∨ k = 6)
theorem ok115 : GOk cx 115 (said aOp fun o => .bool (shares o.k)) := said_ok (n := 200) ΓO1_ok Tryz.func115 (by kernel_rfl) Tryz.call115 (fun o => by
  have e := vc_shares (fun y => y = .bool (shares o.k)) o
  refine Eq.mpr e (cnd_intro (fun h => ⟨trivial, ?_⟩) (fun h => ?_))
  all_goals simp only [beq_iff_eq, beq_false, Bool.not_eq_true', Bool.not_eq_false', beq_eq_false_iff_ne] at *
  all_goals simp_all [asks, shares])
theorem ok22 : GOk cx 22 (said aOp fun o => .bool (rightB o)) := said_ok (n := 200) ΓO0_ok Tryz.func22 (by kernel_rfl) Tryz.call22 (fun o => by
  have e := vc_right (fun y => y = .bool (rightB o)) o
  refine Eq.mpr e ⟨trivial, trivial, ?_⟩
  obtain ⟨k, t, x, s, u, b, n⟩ := o
  repeat' (refine cnd_intro (fun h => ?_) (fun h => ?_))
  all_goals simp only [beq_iff_eq, beq_eq_false_iff_ne, beq_true, Bool.and_eq_true, Bool.and_eq_false_imp, decide_eq_true_eq, decide_eq_false_iff_not, ge_iff_le] at *
  all_goals simp only [rightB, asks, AVal.bool.injEq]
  all_goals simp_all
  all_goals first | omega | (cases u <;> simp_all <;> omega))
noncomputable def ΓO : FuncId → Option (GSpec El) := addΓ (addΓ (addΓ noΓ 60 (said aOp fun o => .bool (asks o.k))) 115 (said aOp fun o => .bool (shares o.k))) 22 (said aOp fun o => .bool (rightB o))
theorem ΓO_ok : ∀ f g, ΓO f = some g → GOk cx f g := addΓ_ok (addΓ_ok (addΓ_ok noΓ_ok ok60) ok115) ok22
end Go.Proofs.YtaeepogbgflbpaaGreat
end

/- What the functions of package slab come to, printed. No condition. -/
section
set_option linter.unusedVariables false
set_option linter.unusedSimpArgs false
set_option maxRecDepth 100000
set_option maxHeartbeats 4000000
namespace Go.Proofs.YtaeepogbgflbpaaGreat
open Go Go.Ax

theorem vc_ready (K : AVal El → Prop) (w e : Int) : aexecF cnd cx ΓM noSpec 100 Tryz.f112 (codeOf Tryz.f112) (Cd.enc (.pair aU aU) (w, e)) [] (fun y _ => K y) = ( True ∧ cnd (slbS w == (0 : Int)) (K
  (AVal.bool true)) (cnd (slbS w == (3 : Int)) (cnd (decide (e ≥ (2 : Int)) == true) (K (AVal.bool (decide (slbT w ≤ wu (e - (2 : Int)))))) (K (AVal.bool false))) (K (AVal.bool false)))) := by
  kernel_rfl

end Go.Proofs.YtaeepogbgflbpaaGreat
end

/- The tables under taking and giving blocks; what claiming a slab's blocks computes. No condition. -/
section
set_option linter.unusedVariables false
set_option linter.unusedSimpArgs false
set_option maxRecDepth 100000
set_option maxHeartbeats 1000000
namespace Go.Proofs.YtaeepogbgflbpaaGreat
open Go Go.Ax

theorem ok112 : GOk cx 112 (said (.pair aU aU) fun x => .bool (readyB x.1 x.2)) := said_ok (n := 100) ΓM_ok Tryz.func112 (by kernel_rfl) Tryz.call112 (fun ⟨w, ep⟩ => by
  have e := vc_ready (fun y => y = .bool (readyB w ep)) w ep
  refine Eq.mpr e ⟨trivial, ?_⟩
  clear e
  repeat' (refine cnd_intro (fun h => ?_) (fun h => ?_))
  all_goals simp only [beq_iff_eq, beq_eq_false_iff_ne, beq_true, decide_eq_true_eq, decide_eq_false_iff_not, ge_iff_le] at *
  all_goals simp_all [readyB]
  all_goals omega)
noncomputable def ΓA0 : FuncId → Option (GSpec El) := orΓ (addΓ ΓL 112 (said (.pair aU aU) fun x => .bool (readyB x.1 x.2))) (orΓ ΓR9 ΓO)
theorem ΓA0_ok : ∀ f g, ΓA0 f = some g → GOk cx f g := orΓ_ok (addΓ_ok ΓL_ok ok112) (orΓ_ok ΓR9_ok ΓO_ok)
/-- The blocks of a claimed slab but the first. -/
def claimL (f : Int) (n : Nat) : List Int := List.map (fun k : Nat => wr (f + ((k : Int) + 1))) (List.range (n - 1))
def claimX (m : Md) (x : Wk) (n : Nat) : Wk := { x with b := wr (wr (x.j * m.c.b) + 1), hold := x.hold ++ claimL (wr (x.j * m.c.b)) n }
def specClaim (m : Md) (x : Wk) : Nat → Option (St El → LSpec El) := oneSpec 4 fun _ =>
  { σ := Nat, slots := fun i => [(7, .int .i64 (i : Int))], res := fun i => [(2, .cells 57 (cdWk.enc (claimX m x i)))], inv := fun i => 1 ≤ i ∧ (i : Int) ≤ m.c.b, meas := fun i => (m.c.b - i).toNat }
end Go.Proofs.YtaeepogbgflbpaaGreat
end

/- What claiming a slab comes to, printed. No condition. -/
section
set_option linter.unusedVariables false
set_option linter.unusedSimpArgs false
set_option maxRecDepth 100000
set_option maxHeartbeats 4000000
namespace Go.Proofs.YtaeepogbgflbpaaGreat
open Go Go.Ax

theorem vc_claim (K : Md → (Wk × Int) → Prop) (m : Md) (x : Wk) : aexecF cnd cx ΓA0 (specClaim m x) 200 Tryz.f141 (codeOf Tryz.f141) (.ptr 0 0 :: aWk.enc x) (GM.gr m) (fun y R => rdG GM cdWI y R K) =
  ( (∃ (s0 : Nat), ((1 : Nat) ≤ s0 ∧ (↑s0 : Int) ≤ m.c.b) ∧ (EqA (AVal.int .i64 1) (AVal.int .i64 (↑s0 : Int)) ∧ True) ∧ (EqR (Res.cells 103 [AVal.int .i64 m.c.w, AVal.int .i64 m.c.s, AVal.int .i64
  m.c.b, AVal.int .i64 m.c.o, AVal.int .i64 m.c.e, AVal.int .i64 m.c.r, AVal.int .i64 m.c.a, AVal.int .u64 m.c.l, AVal.int .i64 m.seen.kind, AVal.int .i64 m.seen.at_, AVal.int .u64 m.seen.x, AVal.int
  .u64 m.seen.y, AVal.int .u64 m.seen.old, AVal.vec 1]) (Res.cells 103 [AVal.int .i64 m.c.w, AVal.int .i64 m.c.s, AVal.int .i64 m.c.b, AVal.int .i64 m.c.o, AVal.int .i64 m.c.e, AVal.int .i64 m.c.r,
  AVal.int .i64 m.c.a, AVal.int .u64 m.c.l, AVal.int .i64 m.seen.kind, AVal.int .i64 m.seen.at_, AVal.int .u64 m.seen.x, AVal.int .u64 m.seen.y, AVal.int .u64 m.seen.old, AVal.vec 1]) ∧ EqR (Res.vec 22
  m.ws) (Res.vec 22 m.ws) ∧ (True ∧ EqA (AVal.int .i64 x.line) (AVal.int .i64 x.line) ∧ EqA (AVal.int .i64 x.op.k) (AVal.int .i64 x.op.k) ∧ EqA (AVal.int .u64 x.op.t) (AVal.int .u64 x.op.t) ∧ EqA
  (AVal.int .u64 x.op.x) (AVal.int .u64 x.op.x) ∧ EqA (AVal.int .i64 x.op.s) (AVal.int .i64 x.op.s) ∧ EqA (AVal.bool x.op.u) (AVal.bool x.op.u) ∧ EqA (AVal.int .i64 x.op.b) (AVal.int .i64 x.op.b) ∧ EqA
  (AVal.int .i64 x.op.n) (AVal.int .i64 x.op.n) ∧ EqA (AVal.bool x.pin) (AVal.bool x.pin) ∧ EqA (AVal.int .u64 x.e) (AVal.int .u64 x.e) ∧ EqA (AVal.list 3 x.rack) (AVal.list 3 x.rack) ∧ EqA (AVal.int
  .u64 x.t0) (AVal.int .u64 x.t0) ∧ EqA (AVal.list 3 x.l0) (AVal.list 3 x.l0) ∧ EqA (AVal.int .u64 x.t1) (AVal.int .u64 x.t1) ∧ EqA (AVal.list 3 x.l1) (AVal.list 3 x.l1) ∧ EqA (AVal.int .u64 x.t2)
  (AVal.int .u64 x.t2) ∧ EqA (AVal.list 3 x.l2) (AVal.list 3 x.l2) ∧ EqA (AVal.list 3 x.hold) (AVal.list 3 (x.hold ++ claimL (wr (x.j * m.c.b)) s0)) ∧ EqA (AVal.int .i64 (wr (wr (x.j * m.c.b) + (1 :
  Int)))) (AVal.int .i64 (wr (wr (x.j * m.c.b) + (1 : Int)))) ∧ EqA (AVal.int .i64 x.k) (AVal.int .i64 x.k) ∧ EqA (AVal.int .i64 x.i) (AVal.int .i64 x.i) ∧ EqA (AVal.int .i64 x.c) (AVal.int .i64 x.c) ∧
  EqA (AVal.int .i64 x.bor) (AVal.int .i64 x.bor) ∧ EqA (AVal.int .u64 x.h) (AVal.int .u64 x.h) ∧ EqA (AVal.int .u64 x.n) (AVal.int .u64 x.n) ∧ EqA (AVal.int .u64 x.v) (AVal.int .u64 x.v) ∧ EqA
  (AVal.int .u64 x.u) (AVal.int .u64 x.u) ∧ EqA (AVal.int .u64 x.g) (AVal.int .u64 x.g) ∧ EqA (AVal.int .i64 x.j) (AVal.int .i64 x.j) ∧ EqA (AVal.list 22 x.read) (AVal.list 22 x.read) ∧ EqA (AVal.int
  .u64 x.t) (AVal.int .u64 x.t) ∧ EqA (AVal.int .i64 x.ret) (AVal.int .i64 x.ret) ∧ EqA (AVal.bool x.give) (AVal.bool x.give) ∧ True) ∧ EqR (Res.cells 57 [AVal.int .i64 0, AVal.int .i64 0, AVal.int .u64
  0, AVal.int .u64 0, AVal.int .i64 0, AVal.bool false, AVal.int .i64 0, AVal.int .i64 0, AVal.bool false, AVal.int .u64 0, AVal.nils, AVal.int .u64 0, AVal.nils, AVal.int .u64 0, AVal.nils, AVal.int
  .u64 0, AVal.nils, AVal.nils, AVal.int .i64 0, AVal.int .i64 0, AVal.int .i64 0, AVal.int .i64 0, AVal.int .i64 0, AVal.int .u64 0, AVal.int .u64 0, AVal.int .u64 0, AVal.int .u64 0, AVal.int .u64 0,
  AVal.int .i64 0, AVal.nils, AVal.int .u64 0, AVal.int .i64 0, AVal.bool false]) (Res.cells 57 [AVal.int .i64 0, AVal.int .i64 0, AVal.int .u64 0, AVal.int .u64 0, AVal.int .i64 0, AVal.bool false,
  AVal.int .i64 0, AVal.int .i64 0, AVal.bool false, AVal.int .u64 0, AVal.nils, AVal.int .u64 0, AVal.nils, AVal.int .u64 0, AVal.nils, AVal.int .u64 0, AVal.nils, AVal.nils, AVal.int .i64 0, AVal.int
  .i64 0, AVal.int .i64 0, AVal.int .i64 0, AVal.int .i64 0, AVal.int .u64 0, AVal.int .u64 0, AVal.int .u64 0, AVal.int .u64 0, AVal.int .u64 0, AVal.int .i64 0, AVal.nils, AVal.int .u64 0, AVal.int
  .i64 0, AVal.bool false]) ∧ True) ∧ True) ∧ ∀ (s : Nat), (1 : Nat) ≤ s ∧ (↑s : Int) ≤ m.c.b → cnd (decide ((↑s : Int) < m.c.b)) ((Bear (Wk.with12 (Wk.with11 x (x.hold ++ claimL (wr (x.j * m.c.b)) s))
  (wr (wr (x.j * m.c.b) + (1 : Int)))) ∧ small [wr (wr (x.j * m.c.b) + (↑s : Int))]) ∧ ∃ (s' : Nat), ((1 : Nat) ≤ s' ∧ (↑s' : Int) ≤ m.c.b) ∧ Int.toNat (m.c.b - (↑s' : Int)) < Int.toNat (m.c.b - (↑s :
  Int)) ∧ (EqA (AVal.int .i64 (wr ((↑s : Int) + (1 : Int)))) (AVal.int .i64 (↑s' : Int)) ∧ True) ∧ (EqR (Res.cells 103 [AVal.int .i64 m.c.w, AVal.int .i64 m.c.s, AVal.int .i64 m.c.b, AVal.int .i64
  m.c.o, AVal.int .i64 m.c.e, AVal.int .i64 m.c.r, AVal.int .i64 m.c.a, AVal.int .u64 m.c.l, AVal.int .i64 m.seen.kind, AVal.int .i64 m.seen.at_, AVal.int .u64 m.seen.x, AVal.int .u64 m.seen.y, AVal.int
  .u64 m.seen.old, AVal.vec 1]) (Res.cells 103 [AVal.int .i64 m.c.w, AVal.int .i64 m.c.s, AVal.int .i64 m.c.b, AVal.int .i64 m.c.o, AVal.int .i64 m.c.e, AVal.int .i64 m.c.r, AVal.int .i64 m.c.a,
  AVal.int .u64 m.c.l, AVal.int .i64 m.seen.kind, AVal.int .i64 m.seen.at_, AVal.int .u64 m.seen.x, AVal.int .u64 m.seen.y, AVal.int .u64 m.seen.old, AVal.vec 1]) ∧ EqR (Res.vec 22 m.ws) (Res.vec 22
  m.ws) ∧ (True ∧ EqA (AVal.int .i64 x.line) (AVal.int .i64 x.line) ∧ EqA (AVal.int .i64 x.op.k) (AVal.int .i64 x.op.k) ∧ EqA (AVal.int .u64 x.op.t) (AVal.int .u64 x.op.t) ∧ EqA (AVal.int .u64 x.op.x)
  (AVal.int .u64 x.op.x) ∧ EqA (AVal.int .i64 x.op.s) (AVal.int .i64 x.op.s) ∧ EqA (AVal.bool x.op.u) (AVal.bool x.op.u) ∧ EqA (AVal.int .i64 x.op.b) (AVal.int .i64 x.op.b) ∧ EqA (AVal.int .i64 x.op.n)
  (AVal.int .i64 x.op.n) ∧ EqA (AVal.bool x.pin) (AVal.bool x.pin) ∧ EqA (AVal.int .u64 x.e) (AVal.int .u64 x.e) ∧ EqA (AVal.list 3 x.rack) (AVal.list 3 x.rack) ∧ EqA (AVal.int .u64 x.t0) (AVal.int .u64
  x.t0) ∧ EqA (AVal.list 3 x.l0) (AVal.list 3 x.l0) ∧ EqA (AVal.int .u64 x.t1) (AVal.int .u64 x.t1) ∧ EqA (AVal.list 3 x.l1) (AVal.list 3 x.l1) ∧ EqA (AVal.int .u64 x.t2) (AVal.int .u64 x.t2) ∧ EqA
  (AVal.list 3 x.l2) (AVal.list 3 x.l2) ∧ EqA (AVal.list 3 (x.hold ++ claimL (wr (x.j * m.c.b)) s ++ [wr (wr (x.j * m.c.b) + (↑s : Int))])) (AVal.list 3 (x.hold ++ claimL (wr (x.j * m.c.b)) s')) ∧ EqA
  (AVal.int .i64 (wr (wr (x.j * m.c.b) + (1 : Int)))) (AVal.int .i64 (wr (wr (x.j * m.c.b) + (1 : Int)))) ∧ EqA (AVal.int .i64 x.k) (AVal.int .i64 x.k) ∧ EqA (AVal.int .i64 x.i) (AVal.int .i64 x.i) ∧
  EqA (AVal.int .i64 x.c) (AVal.int .i64 x.c) ∧ EqA (AVal.int .i64 x.bor) (AVal.int .i64 x.bor) ∧ EqA (AVal.int .u64 x.h) (AVal.int .u64 x.h) ∧ EqA (AVal.int .u64 x.n) (AVal.int .u64 x.n) ∧ EqA
  (AVal.int .u64 x.v) (AVal.int .u64 x.v) ∧ EqA (AVal.int .u64 x.u) (AVal.int .u64 x.u) ∧ EqA (AVal.int .u64 x.g) (AVal.int .u64 x.g) ∧ EqA (AVal.int .i64 x.j) (AVal.int .i64 x.j) ∧ EqA (AVal.list 22
  x.read) (AVal.list 22 x.read) ∧ EqA (AVal.int .u64 x.t) (AVal.int .u64 x.t) ∧ EqA (AVal.int .i64 x.ret) (AVal.int .i64 x.ret) ∧ EqA (AVal.bool x.give) (AVal.bool x.give) ∧ True) ∧ EqR (Res.cells 57
  [AVal.int .i64 0, AVal.int .i64 0, AVal.int .u64 0, AVal.int .u64 0, AVal.int .i64 0, AVal.bool false, AVal.int .i64 0, AVal.int .i64 0, AVal.bool false, AVal.int .u64 0, AVal.nils, AVal.int .u64 0,
  AVal.nils, AVal.int .u64 0, AVal.nils, AVal.int .u64 0, AVal.nils, AVal.nils, AVal.int .i64 0, AVal.int .i64 0, AVal.int .i64 0, AVal.int .i64 0, AVal.int .i64 0, AVal.int .u64 0, AVal.int .u64 0,
  AVal.int .u64 0, AVal.int .u64 0, AVal.int .u64 0, AVal.int .i64 0, AVal.nils, AVal.int .u64 0, AVal.int .i64 0, AVal.bool false]) (Res.cells 57 [AVal.int .i64 0, AVal.int .i64 0, AVal.int .u64 0,
  AVal.int .u64 0, AVal.int .i64 0, AVal.bool false, AVal.int .i64 0, AVal.int .i64 0, AVal.bool false, AVal.int .u64 0, AVal.nils, AVal.int .u64 0, AVal.nils, AVal.int .u64 0, AVal.nils, AVal.int .u64
  0, AVal.nils, AVal.nils, AVal.int .i64 0, AVal.int .i64 0, AVal.int .i64 0, AVal.int .i64 0, AVal.int .i64 0, AVal.int .u64 0, AVal.int .u64 0, AVal.int .u64 0, AVal.int .u64 0, AVal.int .u64 0,
  AVal.int .i64 0, AVal.nils, AVal.int .u64 0, AVal.int .i64 0, AVal.bool false]) ∧ True) ∧ True) (K m (Wk.with12 (Wk.with11 x (x.hold ++ claimL (wr (x.j * m.c.b)) s)) (wr (wr (x.j * m.c.b) + (1 :
  Int))), (1 : Int)))) := by kernel_rfl

end Go.Proofs.YtaeepogbgflbpaaGreat
end

/- What the parts of a step that look at no memory compute, in plain Lean; their tables. No condition. -/
section
set_option linter.unusedVariables false
set_option linter.unusedSimpArgs false
set_option maxRecDepth 100000
set_option maxHeartbeats 1000000
namespace Go.Proofs.YtaeepogbgflbpaaGreat
open Go Go.Ax

/-- The lists of a state are of bearable length. -/
structure Lim (n : Nat) (x : Wk) : Prop where
  rack : x.rack.length ≤ n
  read : x.read.length ≤ n
  sum : x.hold.length + x.l0.length + x.l1.length + x.l2.length ≤ n
theorem Lim.easy {n : Nat} {x : Wk} (h : Lim n x) (hn : n ≤ 100000) : Easy x := ⟨by unfold small; have := h.rack; omega, by unfold small; have := h.read; omega, by have := h.sum; omega⟩
theorem Lim.bear {n : Nat} {x : Wk} (h : Lim n x) (hn : n ≤ 100000) : Bear x := easy_bear (h.easy hn)
theorem Lim.mono {n m : Nat} {x : Wk} (h : Lim n x) (hn : n ≤ m) : Lim m x := ⟨by have := h.rack; omega, by have := h.read; omega, by have := h.sum; omega⟩
def throughW (x : Wk) : Wk := if shares x.op.k = true ∧ x.pin = false then { x with give := false, line := 90 } else { x with give := false, line := 0 }
def giveBeginW (x : Wk) : Wk × Int := if x.hold = [] then ({ x with line := 0 }, 1) else ({ (nextW x).1 with k := wr ((nextW x).2 + 1), line := 39 }, 0)
def giveBackW (x : Wk) : Wk := if x.hold = [] then throughW { x with give := true, line := 0 } else (giveBeginW { x with give := true }).1
def failW (y : Wk × Int) : Wk := if y.1.b = 0 then giveBackW { y.1 with ret := y.2, c := 0 } else giveBackW { y.1 with ret := y.2, c := 0, b := 0, hold := y.1.hold ++ [wr (y.1.b - 1)] }
def takeBeginW (x : Wk) : Wk := if x.rack = [] then { x with line := 10 } else { (takeW x).1 with b := wr ((takeW x).2 + 1), line := 35 }
def bodyW (x : Wk) : Wk := if x.op.k = 4 then { x with line := 42 } else if x.op.k = 5 then { x with line := 46 } else if x.op.k = 6 then { x with line := 60 } else takeBeginW x
abbrev aWE : Cd El (Wk × Int) := .pair aWk aI

noncomputable def gTakeBegin : GSpec El := plain aWk aWk (Lim 70000) takeBeginW
noncomputable def gGiveBegin : GSpec El := plain aWk cdWI (Lim 70000) giveBeginW
noncomputable def gThrough : GSpec El := plain aWk aWk (fun _ => True) throughW
noncomputable def gGiveBack : GSpec El := plain aWk aWk (Lim 70000) giveBackW
noncomputable def gFail : GSpec El := plain aWE aWk (fun y => Lim 60000 y.1) failW
noncomputable def gBody : GSpec El := plain aWk aWk (Lim 70000) bodyW
noncomputable def ΓX1 : FuncId → Option (GSpec El) := addΓ (addΓ (addΓ ΓA0 92 gTakeBegin) 93 gGiveBegin) 79 gThrough
noncomputable def ΓX2 : FuncId → Option (GSpec El) := addΓ (addΓ ΓX1 64 gGiveBack) 62 gBody
noncomputable def ΓX3 : FuncId → Option (GSpec El) := addΓ ΓX2 121 gFail
end Go.Proofs.YtaeepogbgflbpaaGreat
end

/- What the small parts of a step come to, printed. No condition. -/
section
set_option linter.unusedVariables false
set_option linter.unusedSimpArgs false
set_option maxRecDepth 100000
set_option maxHeartbeats 4000000
namespace Go.Proofs.YtaeepogbgflbpaaGreat
open Go Go.Ax

theorem vc_takeBegin (K : Wk → Prop) (x : Wk) : aexecF cnd cx ΓA0 noSpec 200 Tryz.f92 (codeOf Tryz.f92) (aWk.enc x) [] (fun y R => rd aWk (settleA R y) K) = ( cnd
  ((↑(List.length x.rack) : Int) == (0 : Int)) (K (Wk.with0 x (10 : Int))) (Bear x ∧ K (Wk.with12 (Wk.with0 (takeW x).fst (35 : Int)) (wr ((takeW x).snd + (1 : Int)))))) :=
  by kernel_rfl

theorem vc_giveBegin (K : (Wk × Int) → Prop) (x : Wk) : aexecF cnd cx ΓA0 noSpec 200 Tryz.f93 (codeOf Tryz.f93) (aWk.enc x) [] (fun y R => rd cdWI (settleA R y) K) = ( cnd ((↑(List.length x.hold) :
  Int) == (0 : Int)) (K (Wk.with0 x 0, (1 : Int))) (Bear x ∧ K (Wk.with13 (Wk.with0 (nextW x).fst 39) (wr ((nextW x).snd + (1 : Int))), (0 : Int)))) := by kernel_rfl

theorem vc_through (K : Wk → Prop) (x : Wk) : aexecF cnd cx ΓA0 noSpec 200 Tryz.f79 (codeOf Tryz.f79) (aWk.enc x) [] (fun y R => rd aWk (settleA R y) K) = ( True ∧ cnd (shares x.op.k == true) (cnd
  (!x.pin) (K (Wk.with26 (Wk.with0 x 90) false)) (K (Wk.with26 (Wk.with0 x 0) false))) (K (Wk.with26 (Wk.with0 x 0) false))) := by kernel_rfl

theorem vc_giveBack (K : Wk → Prop) (x : Wk) : aexecF cnd cx ΓX1 noSpec 200 Tryz.f64 (codeOf Tryz.f64) (aWk.enc x) [] (fun y R => rd aWk (settleA R y) K) = ( Lim (70000 : Nat) (Wk.with26 x true) ∧ cnd
  ((giveBeginW (Wk.with26 x true)).snd == (1 : Int)) (True ∧ K (throughW (giveBeginW (Wk.with26 x true)).fst)) (K (giveBeginW (Wk.with26 x true)).fst)) := by kernel_rfl

theorem vc_body (K : Wk → Prop) (x : Wk) : aexecF cnd cx ΓX1 noSpec 200 Tryz.f62 (codeOf Tryz.f62) (aWk.enc x) [] (fun y R => rd aWk (settleA R y) K) = ( cnd (x.op.k == (4 : Int)) (K (Wk.with0 x 42))
  (cnd (x.op.k == (5 : Int)) (K (Wk.with0 x 46)) (cnd (x.op.k == (6 : Int)) (K (Wk.with0 x 60)) (Lim (70000 : Nat) x ∧ K (takeBeginW x))))) := by kernel_rfl

theorem vc_fail (K : Wk → Prop) (x : Wk) (e : Int) : aexecF cnd cx ΓX2 noSpec 200 Tryz.f121 (codeOf Tryz.f121) (aWE.enc (x, e)) [] (fun y R => rd aWk (settleA R y) K) = ( cnd (x.b != (0 : Int)) ((Bear
  (Wk.with25 x e) ∧ small [wr (x.b - (1 : Int))]) ∧ Lim (70000 : Nat) (Wk.with25 (Wk.with15 (Wk.with12 (Wk.with11 x (x.hold ++ [wr (x.b - (1 : Int))])) 0) 0) e) ∧ K (giveBackW (Wk.with25 (Wk.with15
  (Wk.with12 (Wk.with11 x (x.hold ++ [wr (x.b - (1 : Int))])) 0) 0) e))) (Lim (70000 : Nat) (Wk.with25 (Wk.with15 x 0) e) ∧ K (giveBackW (Wk.with25 (Wk.with15 x 0) e)))) := by kernel_rfl

end Go.Proofs.YtaeepogbgflbpaaGreat
end

/- The contract of claiming a slab's blocks. No condition. -/
section
set_option linter.unusedVariables false
set_option linter.unusedSimpArgs false
set_option maxRecDepth 100000
set_option maxHeartbeats 1000000
namespace Go.Proofs.YtaeepogbgflbpaaGreat
open Go Go.Ax

theorem claimL_len (f : Int) (n : Nat) : (claimL f n).length = n - 1 := by simp [claimL]
theorem claimL_one (f : Int) : claimL f 1 = [] := rfl
theorem claimL_succ (f : Int) {n : Nat} (h : 1 ≤ n) : claimL f (n + 1) = claimL f n ++ [wr (f + (n : Int))] := by
  obtain ⟨k, rfl⟩ : ∃ k, n = k + 1 := ⟨n - 1, by omega⟩
  simp only [claimL, Nat.add_sub_cancel, List.range_succ, List.map_append, List.map_cons, List.map_nil]
  congr 3
def claimS (m : Md) (x : Wk) : Md × Wk × Int := (m, claimX m x m.c.b.toNat, 1)
def claimP (m : Md) (x : Wk) : Prop := 1 ≤ m.c.b ∧ m.c.b ≤ 16 ∧ Bear x ∧ x.hold.length ≤ 90000
noncomputable def gClaim : GSpec El := gcall GM aWk cdWI claimP claimS
theorem ok141 : GOk cx 141 gClaim := gcall_ok ΓA0_ok Tryz.func141 (body_of (by kernel_rfl)) Tryz.call141 (fun m x hp => ⟨specClaim m x, 200, by
  obtain ⟨h1, h2, hb, h4⟩ := hp
  have e := vc_claim (fun m' b => (m', b) = claimS m x) m x
  refine Eq.mpr e ⟨⟨1, ⟨Nat.le_refl _, by omega⟩, ?_⟩, fun s hs => cnd_intro (fun h => ⟨⟨?_, ?_⟩, s + 1, ⟨by omega, ?_⟩, ?_⟩) (fun h => ?_)⟩
  · repeat' first | refine And.intro ?_ ?_ | exact trivial | exact rfl
    all_goals exact congrArg (AVal.list 3) (by rw [claimL_one, List.append_nil])
  · have h : (s : Int) < m.c.b := by simpa using h
    refine ⟨hb.rack, ?_, hb.read, hb.l0, hb.l1, hb.l2⟩
    unfold small
    rw [List.length_append, claimL_len]; omega
  · unfold small; simp
  · have h : (s : Int) < m.c.b := by simpa using h
    push_cast; omega
  · have h : (s : Int) < m.c.b := by simpa using h
    refine ⟨by push_cast; omega, ⟨congrArg (AVal.int .i64) ?_, trivial⟩, ?_⟩
    · rw [wr_in (by omega)]; push_cast; rfl
    repeat' first | refine And.intro ?_ ?_ | exact trivial | exact rfl
    all_goals exact congrArg (AVal.list 3) (by rw [claimL_succ _ hs.1, List.append_assoc])
  · have h : ¬ (s : Int) < m.c.b := by simpa using h
    have : s = m.c.b.toNat := by omega
    subst this
    rfl⟩)
noncomputable def ΓA : FuncId → Option (GSpec El) := addΓ (ΓA0) 141 gClaim
theorem ΓA_ok : ∀ f g, ΓA f = some g → GOk cx f g := addΓ_ok (ΓA0_ok) ok141
end Go.Proofs.YtaeepogbgflbpaaGreat
end

/- The contracts of the parts of a step that look at no memory; the tables under one step of an operation. No condition. -/
section
set_option linter.unusedVariables false
set_option linter.unusedSimpArgs false
set_option maxRecDepth 100000
set_option maxHeartbeats 1000000
namespace Go.Proofs.YtaeepogbgflbpaaGreat
open Go Go.Ax

theorem nil_of_len {l : List Int} (h : ((l.length : Int) == 0) = true) : l = [] := by
  have : (l.length : Int) = 0 := by simpa using h
  exact List.length_eq_zero_iff.1 (by omega)
theorem cons_of_len {l : List Int} (h : ((l.length : Int) == 0) = false) : ¬ l = [] := by
  rintro rfl; simp at h
theorem small_one (b : Int) : small [b] := by unfold small; simp
theorem ok92 : GOk cx 92 gTakeBegin := plain_ok ΓA0_ok Tryz.func92 (body_of (by kernel_rfl)) Tryz.call92 (fun x h => ⟨noSpec, 200, by
  have e := vc_takeBegin (fun y => y = takeBeginW x) x
  refine Eq.mpr e (cnd_intro (fun h1 => ?_) (fun h1 => ⟨h.bear (by omega), ?_⟩))
  · simp only [takeBeginW, if_pos (nil_of_len h1)]
  · simp only [takeBeginW, if_neg (cons_of_len h1)]⟩)
theorem ok93 : GOk cx 93 gGiveBegin := plain_ok ΓA0_ok Tryz.func93 (body_of (by kernel_rfl)) Tryz.call93 (fun x h => ⟨noSpec, 200, by
  have e := vc_giveBegin (fun y => y = giveBeginW x) x
  refine Eq.mpr e (cnd_intro (fun h1 => ?_) (fun h1 => ⟨h.bear (by omega), ?_⟩))
  · simp only [giveBeginW, if_pos (nil_of_len h1)]
  · simp only [giveBeginW, if_neg (cons_of_len h1)]⟩)
theorem ok79 : GOk cx 79 gThrough := plain_ok ΓA0_ok Tryz.func79 (body_of (by kernel_rfl)) Tryz.call79 (fun x h => ⟨noSpec, 200, by
  have e := vc_through (fun y => y = throughW x) x
  refine Eq.mpr e ⟨trivial, cnd_intro (fun h1 => cnd_intro (fun h2 => ?_) (fun h2 => ?_)) (fun h1 => ?_)⟩
  · have h1 : shares x.op.k = true := by simpa using h1
    have h2 : x.pin = false := by simpa using h2
    simp only [throughW, if_pos (And.intro h1 h2)]
  · have h2 : x.pin = true := by simpa using h2
    unfold throughW
    rw [if_neg (by simp [h2])]
  · have h1 : shares x.op.k = false := by simpa using h1
    unfold throughW
    rw [if_neg (by simp [h1])]⟩)
theorem ΓX1_ok : ∀ f g, ΓX1 f = some g → GOk cx f g := addΓ_ok (addΓ_ok (addΓ_ok ΓA0_ok ok92) ok93) ok79
theorem ok64 : GOk cx 64 gGiveBack := plain_ok ΓX1_ok Tryz.func64 (body_of (by kernel_rfl)) Tryz.call64 (fun x h => ⟨noSpec, 200, by
  have e := vc_giveBack (fun y => y = giveBackW x) x
  refine Eq.mpr e ⟨⟨h.rack, h.read, h.sum⟩, ?_⟩
  clear e
  by_cases hh : x.hold = []
  · simp only [giveBeginW, giveBackW, hh, if_true]
    exact cnd_intro (fun _ => ⟨trivial, trivial⟩) (fun h => by simp at h)
  · simp only [giveBeginW, giveBackW, hh, if_false]
    exact cnd_intro (fun h => by simp at h) (fun _ => trivial)⟩)
theorem ok62 : GOk cx 62 gBody := plain_ok ΓX1_ok Tryz.func62 (body_of (by kernel_rfl)) Tryz.call62 (fun x h => ⟨noSpec, 200, by
  have e := vc_body (fun y => y = bodyW x) x
  refine Eq.mpr e ?_
  clear e
  repeat' first | refine And.intro h ?_ | refine cnd_intro (fun _ => ?_) (fun _ => ?_)
  all_goals simp only [beq_iff_eq, beq_eq_false_iff_ne] at *
  all_goals simp_all [bodyW]⟩)
theorem ΓX2_ok : ∀ f g, ΓX2 f = some g → GOk cx f g := addΓ_ok (addΓ_ok ΓX1_ok ok64) ok62
theorem ok121 : GOk cx 121 gFail := plain_ok ΓX2_ok Tryz.func121 (body_of (by kernel_rfl)) Tryz.call121 (fun ⟨x, ep⟩ h => ⟨noSpec, 200, by
  have e := vc_fail (fun y => y = failW (x, ep)) x ep
  have hs := h.sum
  have hr := h.rack
  have hd := h.read
  simp only at hs hr hd
  refine Eq.mpr e ?_
  clear e
  refine cnd_intro (fun h1 => ⟨⟨?_, small_one _⟩, ?_, ?_⟩) (fun h1 => ⟨?_, ?_⟩)
  · exact Lim.bear (n := 60000) ⟨hr, hd, hs⟩ (by omega)
  · refine ⟨Nat.le_trans hr (by omega), Nat.le_trans hd (by omega), ?_⟩
    simp only [List.length_append, List.length_singleton]; omega
  · have h1 : ¬ x.b = 0 := by simpa using h1
    simp only [failW, if_neg h1]
  · exact Lim.mono (n := 60000) ⟨hr, hd, hs⟩ (by omega)
  · have h1 : x.b = 0 := by simpa using h1
    simp only [failW, if_pos h1]⟩)
noncomputable def ΓA1 : FuncId → Option (GSpec El) := addΓ (addΓ (addΓ (addΓ (addΓ (addΓ (ΓA) 92 gTakeBegin) 93 gGiveBegin) 79 gThrough) 64 gGiveBack) 62 gBody) 121 gFail
theorem ΓA1_ok : ∀ f g, ΓA1 f = some g → GOk cx f g := addΓ_ok (addΓ_ok (addΓ_ok (addΓ_ok (addΓ_ok (addΓ_ok (ΓA_ok) ok92) ok93) ok79) ok64) ok62) ok121
noncomputable def ΓB : FuncId → Option (GSpec El) := addΓ (addΓ (addΓ (addΓ (addΓ (addΓ (addΓ (addΓ (addΓ (ΓA1) 116 (inl cx ΓA1 150 Tryz.f116 (codeOf Tryz.f116))) 76 (inl cx ΓA1 150 Tryz.f76 (codeOf Tryz.f76))) 71 (inl cx ΓA1 150 Tryz.f71 (codeOf Tryz.f71))) 138 (inl cx ΓA1 150 Tryz.f138 (codeOf Tryz.f138))) 139 (inl cx ΓA1 150 Tryz.f139 (codeOf Tryz.f139))) 142 (inl cx ΓA1 150 Tryz.f142 (codeOf Tryz.f142))) 143 (inl cx ΓA1 150 Tryz.f143 (codeOf Tryz.f143))) 144 (inl cx ΓA1 150 Tryz.f144 (codeOf Tryz.f144))) 140 (inl cx ΓA1 150 Tryz.f140 (codeOf Tryz.f140))
theorem ΓB_ok : ∀ f g, ΓB f = some g → GOk cx f g := addΓ_ok (addΓ_ok (addΓ_ok (addΓ_ok (addΓ_ok (addΓ_ok (addΓ_ok (addΓ_ok (addΓ_ok (ΓA1_ok) (inl_ok ΓA1_ok Tryz.func116 (body_of (by kernel_rfl)) Tryz.call116 150)) (inl_ok ΓA1_ok Tryz.func76 (body_of (by kernel_rfl)) Tryz.call76 150)) (inl_ok ΓA1_ok Tryz.func71 (body_of (by kernel_rfl)) Tryz.call71 150)) (inl_ok ΓA1_ok Tryz.func138 (body_of (by kernel_rfl)) Tryz.call138 150)) (inl_ok ΓA1_ok Tryz.func139 (body_of (by kernel_rfl)) Tryz.call139 150)) (inl_ok ΓA1_ok Tryz.func142 (body_of (by kernel_rfl)) Tryz.call142 150)) (inl_ok ΓA1_ok Tryz.func143 (body_of (by kernel_rfl)) Tryz.call143 150)) (inl_ok ΓA1_ok Tryz.func144 (body_of (by kernel_rfl)) Tryz.call144 150)) (inl_ok ΓA1_ok Tryz.func140 (body_of (by kernel_rfl)) Tryz.call140 150)
noncomputable def ΓC : FuncId → Option (GSpec El) := addΓ (addΓ (ΓB) 122 (inl cx ΓB 150 Tryz.f122 (codeOf Tryz.f122))) 80 (inl cx ΓB 150 Tryz.f80 (codeOf Tryz.f80))
theorem ΓC_ok : ∀ f g, ΓC f = some g → GOk cx f g := addΓ_ok (addΓ_ok (ΓB_ok) (inl_ok ΓB_ok Tryz.func122 (body_of (by kernel_rfl)) Tryz.call122 150)) (inl_ok ΓB_ok Tryz.func80 (body_of (by kernel_rfl)) Tryz.call80 150)
noncomputable def ΓD0 : FuncId → Option (GSpec El) := addΓ (ΓC) 118 gWays
theorem ΓD0_ok : ∀ f g, ΓD0 f = some g → GOk cx f g := addΓ_ok (ΓC_ok) ok118
noncomputable def ΓD : FuncId → Option (GSpec El) := addΓ (addΓ (addΓ (ΓD0) 84 (inl cx ΓD0 150 Tryz.f84 (codeOf Tryz.f84))) 81 (inl cx ΓD0 150 Tryz.f81 (codeOf Tryz.f81))) 61 (inl cx ΓD0 150 Tryz.f61 (codeOf Tryz.f61))
theorem ΓD_ok : ∀ f g, ΓD f = some g → GOk cx f g := addΓ_ok (addΓ_ok (addΓ_ok (ΓD0_ok) (inl_ok ΓD0_ok Tryz.func84 (body_of (by kernel_rfl)) Tryz.call84 150)) (inl_ok ΓD0_ok Tryz.func81 (body_of (by kernel_rfl)) Tryz.call81 150)) (inl_ok ΓD0_ok Tryz.func61 (body_of (by kernel_rfl)) Tryz.call61 150)
/-- slices.Grow and slices.Concat of words, in place. -/
noncomputable def ΓW0 : FuncId → Option (GSpec El) := addΓ (noΓ) 97 (inl cx noΓ 100 Tryz.f97 (codeOf Tryz.f97))
theorem ΓW0_ok : ∀ f g, ΓW0 f = some g → GOk cx f g := addΓ_ok (noΓ_ok) (inl_ok noΓ_ok Tryz.func97 (body_of (by kernel_rfl)) Tryz.call97 100)
noncomputable def ΓF1 : FuncId → Option (GSpec El) := addΓ (ΓD) 69 (inl cx ΓW0 200 Tryz.f69 (codeOf Tryz.f69))
theorem ΓF1_ok : ∀ f g, ΓF1 f = some g → GOk cx f g := addΓ_ok (ΓD_ok) (inl_ok ΓW0_ok Tryz.func69 (body_of (by kernel_rfl)) Tryz.call69 200)
noncomputable def ΓG1 : FuncId → Option (GSpec El) := addΓ (addΓ (addΓ (addΓ (addΓ (addΓ (addΓ (addΓ (addΓ (addΓ (addΓ (addΓ (addΓ (addΓ (ΓF1) 72 (inl cx ΓF1 150 Tryz.f72 (codeOf Tryz.f72))) 73 (inl cx ΓF1 150 Tryz.f73 (codeOf Tryz.f73))) 104 (inl cx ΓF1 150 Tryz.f104 (codeOf Tryz.f104))) 114 (inl cx ΓF1 150 Tryz.f114 (codeOf Tryz.f114))) 119 (inl cx ΓF1 150 Tryz.f119 (codeOf Tryz.f119))) 120 (inl cx ΓF1 150 Tryz.f120 (codeOf Tryz.f120))) 127 (inl cx ΓF1 150 Tryz.f127 (codeOf Tryz.f127))) 78 (inl cx ΓF1 150 Tryz.f78 (codeOf Tryz.f78))) 85 (inl cx ΓF1 150 Tryz.f85 (codeOf Tryz.f85))) 87 (inl cx ΓF1 150 Tryz.f87 (codeOf Tryz.f87))) 88 (inl cx ΓF1 150 Tryz.f88 (codeOf Tryz.f88))) 89 (inl cx ΓF1 150 Tryz.f89 (codeOf Tryz.f89))) 105 (inl cx ΓF1 150 Tryz.f105 (codeOf Tryz.f105))) 53 (inl cx ΓF1 150 Tryz.f53 (codeOf Tryz.f53))
theorem ΓG1_ok : ∀ f g, ΓG1 f = some g → GOk cx f g := addΓ_ok (addΓ_ok (addΓ_ok (addΓ_ok (addΓ_ok (addΓ_ok (addΓ_ok (addΓ_ok (addΓ_ok (addΓ_ok (addΓ_ok (addΓ_ok (addΓ_ok (addΓ_ok (ΓF1_ok) (inl_ok ΓF1_ok Tryz.func72 (body_of (by kernel_rfl)) Tryz.call72 150)) (inl_ok ΓF1_ok Tryz.func73 (body_of (by kernel_rfl)) Tryz.call73 150)) (inl_ok ΓF1_ok Tryz.func104 (body_of (by kernel_rfl)) Tryz.call104 150)) (inl_ok ΓF1_ok Tryz.func114 (body_of (by kernel_rfl)) Tryz.call114 150)) (inl_ok ΓF1_ok Tryz.func119 (body_of (by kernel_rfl)) Tryz.call119 150)) (inl_ok ΓF1_ok Tryz.func120 (body_of (by kernel_rfl)) Tryz.call120 150)) (inl_ok ΓF1_ok Tryz.func127 (body_of (by kernel_rfl)) Tryz.call127 150)) (inl_ok ΓF1_ok Tryz.func78 (body_of (by kernel_rfl)) Tryz.call78 150)) (inl_ok ΓF1_ok Tryz.func85 (body_of (by kernel_rfl)) Tryz.call85 150)) (inl_ok ΓF1_ok Tryz.func87 (body_of (by kernel_rfl)) Tryz.call87 150)) (inl_ok ΓF1_ok Tryz.func88 (body_of (by kernel_rfl)) Tryz.call88 150)) (inl_ok ΓF1_ok Tryz.func89 (body_of (by kernel_rfl)) Tryz.call89 150)) (inl_ok ΓF1_ok Tryz.func105 (body_of (by kernel_rfl)) Tryz.call105 150)) (inl_ok ΓF1_ok Tryz.func53 (body_of (by kernel_rfl)) Tryz.call53 150)
noncomputable def ΓH : FuncId → Option (GSpec El) := addΓ (ΓG1) 54 gTable
theorem ΓH_ok : ∀ f g, ΓH f = some g → GOk cx f g := addΓ_ok (ΓG1_ok) ok54
end Go.Proofs.YtaeepogbgflbpaaGreat
end

/- What one step of an operation computes, line by line, in plain Lean. No condition. -/
section
set_option linter.unusedVariables false
set_option linter.unusedSimpArgs false
set_option maxRecDepth 100000
namespace Go.Proofs.YtaeepogbgflbpaaGreat
open Go Go.Ax

def ld (m : Md) (i : Int) : Md := (loadM (clearM m) i).1
def rd0 (m : Md) (i : Int) : Int := rdW (clearM m) i
def sto (m : Md) (i x : Int) : Md := storeM (clearM m) i x
def cas (m : Md) (i x y : Int) : Md := (casM (clearM m) i x y).1
def casOk (m : Md) (i x : Int) : Bool := casB (clearM m) i x
/-- The head that follows another one. -/
def upHead (v p : Int) : Int := headW p (wu (hdV v + 1))
def s1 (m : Md) (x : Wk) : Md × Wk := (ld m 0, { x with e := rd0 m 0, line := 2 })
def s2 (m : Md) (w : Int) (x : Wk) : Md × Wk := (sto m (announceV m.c w) (annW x.e true), { x with line := 3 })
def s3 (m : Md) (x : Wk) : Md × Wk := (ld m 0, if rd0 m 0 = x.e then (if x.op.k = 1 then { x with line := 0, pin := true, bor := 0 } else bodyW { x with line := 0 }) else { x with e := rd0 m 0, line := 2 })
def s90 (m : Md) (w : Int) (x : Wk) : Md × Wk := (sto m (announceV m.c w) (annW x.e false), if x.op.k = 2 then { x with line := 0, pin := false, bor := 0 } else { x with line := 0 })
def s70 (m : Md) (x : Wk) : Md × Wk := (ld m 0, { x with v := rd0 m 0, j := 0, line := 71 })
def s71 (m : Md) (x : Wk) : Md × Wk := (ld m (announceV m.c x.j), if annA (rd0 m (announceV m.c x.j)) = true ∧ annE (rd0 m (announceV m.c x.j)) ≠ x.v then { x with line := 73 } else if wr (m.c.w - 1) ≤ x.j then { x with j := wr (x.j + 1), line := 72 } else { x with j := wr (x.j + 1) })
def s72 (m : Md) (x : Wk) : Md × Wk := (cas m 0 x.v (wu (x.v + 1)), { x with line := 73 })
def s73 (m : Md) (x : Wk) : Md × Wk := (ld m 0, giveBackW (ripeW (x, rd0 m 0)))
def s36 (m : Md) (x : Wk) : Md × Wk := (ld m (slabV m.c x.op.s), if slbS (rd0 m (slabV m.c x.op.s)) = 1 then { x with v := rd0 m (slabV m.c x.op.s), line := 37 } else { x with v := rd0 m (slabV m.c x.op.s), ret := 9, line := 0 })
def s37 (m : Md) (x : Wk) : Md × Wk := (cas m (slabV m.c x.op.s) x.v 2, if casOk m (slabV m.c x.op.s) x.v = true then { x with ret := 0, line := 0 } else { x with line := 36 })
def s10 (m : Md) (x : Wk) : Md × Wk := (ld m 1, if lowW (rd0 m 1) = 0 then { x with h := lowW (rd0 m 1), v := rd0 m 1, u := hdV (rd0 m 1), j := 0, line := 33 } else { x with h := lowW (rd0 m 1), v := rd0 m 1, line := 11 })
def s11 (m : Md) (x : Wk) : Md × Wk := (ld m (blockLinkV m.c (wr (wr x.h - 1))), { x with n := rd0 m (blockLinkV m.c (wr (wr x.h - 1))), line := 12 })
def s12 (m : Md) (x : Wk) : Md × Wk := (cas m 1 x.v (upHead x.v (wr (wr (lowW x.n) - 1))), if casOk m 1 x.v = true then { x with b := wr x.h, line := 35 } else { x with line := 10 })
/-- The slab word of the block that is being released. -/
def slabAt (m : Md) (k : Int) : Int := slabV m.c (homeV m.c (wr (k - 1)))
def s30 (m : Md) (x : Wk) : Md × Wk := ((addM (clearM m) (slabAt m x.k) 16).1, if slbP (wu ((addM (clearM m) (slabAt m x.k) 16).2 + 16)) = m.c.b then { x with line := 31 } else if x.give = true then giveBackW { x with k := 0, line := 0 } else takeBeginW { x with k := 0, line := 0 })
def s31 (m : Md) (x : Wk) : Md × Wk := (ld m 0, { x with v := rd0 m 0, line := 32 })
def s32 (m : Md) (x : Wk) : Md × Wk := (sto m (slabAt m x.k) (slabW 3 0 x.v), if x.give = true then giveBackW { x with k := 0, line := 0 } else takeBeginW { x with k := 0, line := 0 })
def s33 (m : Md) (x : Wk) : Md × Wk := (ld m (slabV m.c x.j), if readyB (rd0 m (slabV m.c x.j)) x.e = true then { x with v := rd0 m (slabV m.c x.j), line := 34 } else if wr (m.c.s - 1) ≤ x.j then { x with v := rd0 m (slabV m.c x.j), j := wr (x.j + 1), line := 38 } else { x with v := rd0 m (slabV m.c x.j), j := wr (x.j + 1) })
def s34 (m : Md) (x : Wk) : Md × Wk := (cas m (slabV m.c x.j) x.v 1, if casOk m (slabV m.c x.j) x.v = true then { x with b := wr (wr (x.j * m.c.b) + 1), hold := x.hold ++ claimL (wr (x.j * m.c.b)) m.c.b.toNat, j := 0, line := 50 } else { x with line := 33 })
def s35 (m : Md) (x : Wk) : Md × Wk := (ld m (slabAt m x.b), if slbS (rd0 m (slabAt m x.b)) = 2 then { x with b := 0, k := x.b, line := 30 } else { x with j := 0, line := 50 })
def s38 (m : Md) (x : Wk) : Md × Wk := (ld m 1, if IntKind.wrap .u32 (rd0 m 1) = 0 ∧ hdV (rd0 m 1) = x.u then failW ({ x with line := 0 }, 5) else takeBeginW x)
def s50 (m : Md) (x : Wk) : Md × Wk := (sto m (wordV m.c (wr (x.b - 1)) x.j) (wu (x.op.x + wu x.j)), { x with j := wr (x.j + 1), line := if m.c.o ≤ wr (x.j + 1) then (if x.op.k = 5 then 44 else 20) else 50 })
def s20 (m : Md) (x : Wk) : Md × Wk := (ld m 2, if lowW (rd0 m 2) = 0 then failW ({ x with h := lowW (rd0 m 2), v := rd0 m 2, line := 0 }, 5) else { x with h := lowW (rd0 m 2), v := rd0 m 2, line := 21 })
def s21 (m : Md) (x : Wk) : Md × Wk := (ld m (entryLinkV m.c (wr (wr x.h - 1))), { x with n := rd0 m (entryLinkV m.c (wr (wr x.h - 1))), line := 22 })
def s22 (m : Md) (x : Wk) : Md × Wk := (cas m 2 x.v (upHead x.v (wr (wr (lowW x.n) - 1))), if casOk m 2 x.v = true then { x with i := wr x.h, line := 40 } else { x with line := 20 })
def s40 (m : Md) (x : Wk) : Md × Wk := (ld m (entryV m.c (wr (x.i - 1))), { x with g := entG (rd0 m (entryV m.c (wr (x.i - 1)))), line := 41 })
def s41 (m : Md) (x : Wk) : Md × Wk := (sto m (entryV m.c (wr (x.i - 1))) (entryW x.g (wr (x.b - 1)) 1), giveBackW { x with b := 0, i := 0, t := tickW (wr (x.i - 1)) x.g, line := 0 })
def s23 (m : Md) (x : Wk) : Md × Wk := (ld m 2, { x with v := rd0 m 2, line := 24 })
def s24 (m : Md) (x : Wk) : Md × Wk := (sto m (entryLinkV m.c (wr (x.i - 1))) (lowW x.v), { x with line := 25 })
def s25 (m : Md) (x : Wk) : Md × Wk := (cas m 2 x.v (upHead x.v (wr (x.i - 1))), if casOk m 2 x.v = true then giveBackW { x with i := 0, line := 0 } else { x with line := 23 })
/-- The word of the ticket's entry. -/
def tkAt (m : Md) (x : Wk) : Int := entryV m.c (tkE x.t)
def liveB (w : Int) (x : Wk) : Bool := decide (entS w = 1 ∧ entG w = tkG x.t)
/-- The state with the word that was read. -/
def readX (m : Md) (x : Wk) : Wk := { x with c := wr (entB (rd0 m (tkAt m x)) + 1), v := rd0 m (tkAt m x), line := 0 }
def roomL (m : Md) (x : Wk) (l : Int) : Wk := if ((bagL (nowX x) (idxW x)).length : Int) < m.c.a then { nowX x with line := l } else failW (nowX x, 6)
def s42 (m : Md) (x : Wk) : Md × Wk := (ld m (tkAt m x), if liveB (rd0 m (tkAt m x)) x = true then roomL m (readX m x) 43 else failW ({ x with line := 0 }, 7))
def s44 (m : Md) (x : Wk) : Md × Wk := (ld m (tkAt m x), if liveB (rd0 m (tkAt m x)) x = true then roomL m (readX m x) 45 else failW ({ x with line := 0 }, 7))
def s46 (m : Md) (x : Wk) : Md × Wk := (ld m (tkAt m x), if liveB (rd0 m (tkAt m x)) x = true then takeBeginW (readX m x) else failW ({ x with line := 0 }, 7))
def s60 (m : Md) (x : Wk) : Md × Wk := (ld m (tkAt m x), if liveB (rd0 m (tkAt m x)) x = true then { readX m x with j := 0, line := 61 } else failW ({ x with line := 0 }, 7))
/-- What an entry word becomes when its ticket is freed, and the entry that is to be pushed. -/
def killW (m : Md) (x : Wk) : Int := if m.c.l ≤ tkG x.t then entryW (tkG x.t) (-1) 2 else entryW (wu (tkG x.t + 1)) (-1) 0
def killI (m : Md) (x : Wk) : Int := if m.c.l ≤ tkG x.t then 0 else wr (tkE x.t + 1)
def putX (m : Md) (x : Wk) (c : Int) : Wk := (bagPut (m.c, x, wr (c - 1))).1
def s43 (m : Md) (x : Wk) : Md × Wk := (cas m (tkAt m x) x.v (killW m x), if casOk m (tkAt m x) x.v = true then
    (if (putX m { x with i := killI m x, line := 0 } x.c).i = 0 then giveBackW { putX m { x with i := killI m x, line := 0 } x.c with c := 0 } else { putX m { x with i := killI m x, line := 0 } x.c with c := 0, line := 23 })
  else { x with line := 42 })
def s45 (m : Md) (x : Wk) : Md × Wk := (cas m (tkAt m x) x.v (entryW (tkG x.t) (wr (x.b - 1)) 1), if casOk m (tkAt m x) x.v = true then giveBackW { putX m { x with b := 0, line := 0 } x.c with c := 0 } else { x with line := 44 })
def s61 (m : Md) (x : Wk) : Md × Wk := (ld m (wordV m.c (wr (x.c - 1)) x.j), if wr (x.j + 1) < m.c.o then { x with read := x.read ++ [rd0 m (wordV m.c (wr (x.c - 1)) x.j)], j := wr (x.j + 1) }
  else giveBackW { x with read := x.read ++ [rd0 m (wordV m.c (wr (x.c - 1)) x.j)], j := wr (x.j + 1), bor := if x.pin = true then x.c else x.bor, c := 0 })
def s62 (m : Md) (x : Wk) : Md × Wk := (ld m (wordV m.c (wr (x.bor - 1)) x.j), if wr (x.j + 1) < m.c.o then { x with read := x.read ++ [rd0 m (wordV m.c (wr (x.bor - 1)) x.j)], j := wr (x.j + 1) }
  else { x with read := x.read ++ [rd0 m (wordV m.c (wr (x.bor - 1)) x.j)], j := wr (x.j + 1), line := 0 })
def s13 (m : Md) (x : Wk) : Md × Wk := (ld m 1, { x with v := rd0 m 1, line := 14 })
def s14 (m : Md) (x : Wk) : Md × Wk := (sto m (blockLinkV m.c (wr (x.k - 1))) (lowW x.v), { x with line := 15 })
def s15 (m : Md) (x : Wk) : Md × Wk := (cas m 1 x.v (upHead x.v (wr (x.k - 1))), if casOk m 1 x.v = true then giveBackW { x with k := 0, line := 0 } else { x with line := 13 })
def s39 (m : Md) (x : Wk) : Md × Wk := (ld m (slabAt m x.k), if slbS (rd0 m (slabAt m x.k)) = 2 then { x with line := 30 } else
  if (putW (m.c, { x with line := 0 }, wr (x.k - 1))).2 = true then giveBackW { (putW (m.c, { x with line := 0 }, wr (x.k - 1))).1 with k := 0 } else { x with line := 13 })
def workS (m : Md) (w : Int) (x : Wk) : Md × Wk :=
  if x.line = 1 then s1 m x else if x.line = 2 then s2 m w x else if x.line = 3 then s3 m x else if x.line = 90 then s90 m w x else if x.line = 70 then s70 m x else if x.line = 71 then s71 m x else if x.line = 72 then s72 m x else
  if x.line = 73 then s73 m x else if x.line = 36 then s36 m x else if x.line = 37 then s37 m x else if x.line = 10 then s10 m x else if x.line = 11 then s11 m x else if x.line = 12 then s12 m x else if x.line = 30 then s30 m x else
  if x.line = 31 then s31 m x else if x.line = 32 then s32 m x else if x.line = 33 then s33 m x else if x.line = 34 then s34 m x else if x.line = 35 then s35 m x else if x.line = 38 then s38 m x else if x.line = 50 then s50 m x else
  if x.line = 20 then s20 m x else if x.line = 21 then s21 m x else if x.line = 22 then s22 m x else if x.line = 40 then s40 m x else if x.line = 41 then s41 m x else if x.line = 23 then s23 m x else if x.line = 24 then s24 m x else
  if x.line = 25 then s25 m x else if x.line = 42 then s42 m x else if x.line = 43 then s43 m x else if x.line = 46 then s46 m x else if x.line = 44 then s44 m x else if x.line = 45 then s45 m x else if x.line = 60 then s60 m x else
  if x.line = 61 then s61 m x else if x.line = 62 then s62 m x else if x.line = 13 then s13 m x else if x.line = 14 then s14 m x else if x.line = 15 then s15 m x else s39 m x
/-- The lines of an operation, while it holds no blocks back. -/
def linesF : List Int := [1, 2, 3, 90, 70, 71, 72, 73, 36, 37, 10, 11, 12, 30, 31, 32, 33, 34, 35, 38, 50, 20, 21, 22, 40, 41, 23, 24, 25, 42, 43, 46, 44, 45, 60, 61, 62]
/-- The lines of releasing blocks. -/
def linesT : List Int := [13, 14, 15, 30, 31, 32, 39]
def okLine (x : Wk) : Prop := (x.give = false ∧ x.line ∈ linesF) ∨ (x.give = true ∧ x.line ∈ linesT)
end Go.Proofs.YtaeepogbgflbpaaGreat
end

/- What one step of an operation comes to, line by line, printed. No condition. -/
section
set_option linter.unusedVariables false
set_option linter.unusedSimpArgs false
set_option maxRecDepth 100000
set_option maxHeartbeats 4000000
namespace Go.Proofs.YtaeepogbgflbpaaGreat
open Go Go.Ax

theorem vc_st1 (K : Md → (Wk × Bool) → Prop) (m : Md) (w : Int) (x : Wk) : aexecF cnd cx ΓH noSpec 300 Tryz.f40 (codeOf Tryz.f40) (.ptr 0 0 :: aWX.enc (w, Wk.with26 (Wk.with0 x 1) false)) (GM.gr m)
  (fun y R => rdG GM cdWB y R K) = ( True ∧ True ∧ True ∧ True ∧ True ∧ K (Md.with1 m (seeM (clearM m) (Acc.mk 1 0 0 0 0))) (Wk.with26 (Wk.with3 (Wk.with0 x 2) (rdW (clearM m) 0)) false, true)) := by
  kernel_rfl

theorem vc_st70 (K : Md → (Wk × Bool) → Prop) (m : Md) (w : Int) (x : Wk) : aexecF cnd cx ΓH noSpec 300 Tryz.f40 (codeOf Tryz.f40) (.ptr 0 0 :: aWX.enc (w, Wk.with26 (Wk.with0 x 70) false)) (GM.gr m)
  (fun y R => rdG GM cdWB y R K) = ( True ∧ True ∧ True ∧ True ∧ True ∧ K (Md.with1 m (seeM (clearM m) (Acc.mk 1 0 0 0 0))) (Wk.with26 (Wk.with22 (Wk.with19 (Wk.with0 x 71) (rdW (clearM m) 0)) 0) false,
  true)) := by kernel_rfl

theorem vc_st36 (K : Md → (Wk × Bool) → Prop) (m : Md) (w : Int) (x : Wk) : aexecF cnd cx ΓH noSpec 300 Tryz.f40 (codeOf Tryz.f40) (.ptr 0 0 :: aWX.enc (w, Wk.with26 (Wk.with0 x 36) false)) (GM.gr m)
  (fun y R => rdG GM cdWB y R K) = ( True ∧ True ∧ True ∧ True ∧ True ∧ True ∧ True ∧ True ∧ cnd (slbS (rdW (clearM m) (slabV m.c x.op.s)) != (1 : Int)) (K (Md.with1 m (seeM (clearM m) (Acc.mk 1 (slabV
  m.c x.op.s) 0 0 0))) (Wk.with26 (Wk.with25 (Wk.with19 (Wk.with0 x 0) (rdW (clearM m) (slabV m.c x.op.s))) 9) false, true)) (K (Md.with1 m (seeM (clearM m) (Acc.mk 1 (slabV m.c x.op.s) 0 0 0)))
  (Wk.with26 (Wk.with19 (Wk.with0 x 37) (rdW (clearM m) (slabV m.c x.op.s))) false, true))) := by kernel_rfl

theorem vc_st12 (K : Md → (Wk × Bool) → Prop) (m : Md) (w : Int) (x : Wk) : aexecF cnd cx ΓH noSpec 300 Tryz.f40 (codeOf Tryz.f40) (.ptr 0 0 :: aWX.enc (w, Wk.with26
  (Wk.with0 x 12) false)) (GM.gr m) (fun y R => rdG GM cdWB y R K) = ( True ∧ True ∧ True ∧ True ∧ True ∧ ((10 : Int) = (0 : Int) → False) ∧ True ∧ True ∧ True ∧ True ∧
  True ∧ True ∧ True ∧ True ∧ cnd (casB (clearM m) (1 : Int) x.v) (K (Md.mk m.c (seeM (clearM m) (Acc.mk (3 : Int) (1 : Int) x.v (headW (wr (wr (lowW x.n) - (1 : Int))) (wu
  (hdV x.v + (1 : Int)))) (0 : Int))) (if casB (clearM m) (1 : Int) x.v = true then List.set m.ws (Int.toNat (1 : Int)) (headW (wr (wr (lowW x.n) - (1 : Int))) (wu (hdV x.v
  + (1 : Int)))) else m.ws)) (Wk.with26 (Wk.with12 (Wk.with0 x (35 : Int)) (wr x.h)) false, true)) (K (Md.mk m.c (seeM (clearM m) (Acc.mk (3 : Int) (1 : Int) x.v (headW (wr
  (wr (lowW x.n) - (1 : Int))) (wu (hdV x.v + (1 : Int)))) (0 : Int))) (if casB (clearM m) (1 : Int) x.v = true then List.set m.ws (Int.toNat (1 : Int)) (headW (wr (wr
  (lowW x.n) - (1 : Int))) (wu (hdV x.v + (1 : Int)))) else m.ws)) (Wk.with26 (Wk.with0 x (wr (wr (Int.tdiv (12 : Int) (10 : Int)) * (10 : Int)))) false, true))) := by
  kernel_rfl

theorem vc_st33 (K : Md → (Wk × Bool) → Prop) (m : Md) (w : Int) (x : Wk) : aexecF cnd cx ΓH noSpec 300 Tryz.f40 (codeOf Tryz.f40) (.ptr 0 0 :: aWX.enc (w, Wk.with26 (Wk.with0 x 33) false)) (GM.gr m)
  (fun y R => rdG GM cdWB y R K) = ( True ∧ True ∧ True ∧ True ∧ True ∧ True ∧ True ∧ True ∧ True ∧ True ∧ cnd (readyB (rdW (clearM m) (slabV m.c x.j)) x.e) (K (Md.with1 m (seeM (clearM m) (Acc.mk 1
  (slabV m.c x.j) 0 0 0))) (Wk.with26 (Wk.with19 (Wk.with0 x 34) (rdW (clearM m) (slabV m.c x.j))) false, true)) (cnd (decide (x.j ≥ wr (m.c.s - (1 : Int)))) (K (Md.with1 m (seeM (clearM m) (Acc.mk 1
  (slabV m.c x.j) 0 0 0))) (Wk.with26 (Wk.with22 (Wk.with19 (Wk.with0 x 38) (rdW (clearM m) (slabV m.c x.j))) (wr (x.j + (1 : Int)))) false, true)) (K (Md.with1 m (seeM (clearM m) (Acc.mk 1 (slabV m.c
  x.j) 0 0 0))) (Wk.with26 (Wk.with22 (Wk.with19 (Wk.with0 x 33) (rdW (clearM m) (slabV m.c x.j))) (wr (x.j + (1 : Int)))) false, true)))) := by kernel_rfl

theorem vc_st50 (K : Md → (Wk × Bool) → Prop) (m : Md) (w : Int) (x : Wk) : aexecF cnd cx ΓH noSpec 300 Tryz.f40 (codeOf Tryz.f40) (.ptr 0 0 :: aWX.enc (w, Wk.with26 (Wk.with0 x 50) false)) (GM.gr m)
  (fun y R => rdG GM cdWB y R K) = ( True ∧ True ∧ True ∧ True ∧ True ∧ cnd (decide (wr (x.j + (1 : Int)) ≥ m.c.o)) (cnd (x.op.k == (5 : Int)) (K (Md.mk m.c (seeM (clearM m) (Acc.mk 2 (wordV m.c (wr
  (x.b - (1 : Int))) x.j) (wu (x.op.x + wu x.j)) 0 0)) (if inM (clearM m) (wordV m.c (wr (x.b - (1 : Int))) x.j) = true then List.set m.ws (Int.toNat (wordV m.c (wr (x.b - (1 : Int))) x.j)) (wu (x.op.x
  + wu x.j)) else m.ws)) (Wk.with26 (Wk.with22 (Wk.with0 x 44) (wr (x.j + (1 : Int)))) false, true)) (K (Md.mk m.c (seeM (clearM m) (Acc.mk 2 (wordV m.c (wr (x.b - (1 : Int))) x.j) (wu (x.op.x + wu
  x.j)) 0 0)) (if inM (clearM m) (wordV m.c (wr (x.b - (1 : Int))) x.j) = true then List.set m.ws (Int.toNat (wordV m.c (wr (x.b - (1 : Int))) x.j)) (wu (x.op.x + wu x.j)) else m.ws)) (Wk.with26
  (Wk.with22 (Wk.with0 x 20) (wr (x.j + (1 : Int)))) false, true))) (K (Md.mk m.c (seeM (clearM m) (Acc.mk 2 (wordV m.c (wr (x.b - (1 : Int))) x.j) (wu (x.op.x + wu x.j)) 0 0)) (if inM (clearM m) (wordV
  m.c (wr (x.b - (1 : Int))) x.j) = true then List.set m.ws (Int.toNat (wordV m.c (wr (x.b - (1 : Int))) x.j)) (wu (x.op.x + wu x.j)) else m.ws)) (Wk.with26 (Wk.with22 (Wk.with0 x 50) (wr (x.j + (1 :
  Int)))) false, true))) := by kernel_rfl

theorem vc_st40 (K : Md → (Wk × Bool) → Prop) (m : Md) (w : Int) (x : Wk) : aexecF cnd cx ΓH noSpec 300 Tryz.f40 (codeOf Tryz.f40) (.ptr 0 0 :: aWX.enc (w, Wk.with26 (Wk.with0 x 40) false)) (GM.gr m)
  (fun y R => rdG GM cdWB y R K) = ( True ∧ True ∧ True ∧ True ∧ True ∧ True ∧ True ∧ True ∧ True ∧ True ∧ K (Md.with1 m (seeM (clearM m) (Acc.mk 1 (entryV m.c (wr (x.i - (1 : Int)))) 0 0 0)))
  (Wk.with26 (Wk.with21 (Wk.with0 x 41) (entG (rdW (clearM m) (entryV m.c (wr (x.i - (1 : Int))))))) false, true)) := by kernel_rfl

theorem vc_st25 (K : Md → (Wk × Bool) → Prop) (m : Md) (w : Int) (x : Wk) : aexecF cnd cx ΓH noSpec 300 Tryz.f40 (codeOf Tryz.f40) (.ptr 0 0 :: aWX.enc (w, Wk.with26 (Wk.with0 x 25) false)) (GM.gr m)
  (fun y R => rdG GM cdWB y R K) = ( True ∧ True ∧ True ∧ ((10 : Int) = (0 : Int) → False) ∧ True ∧ True ∧ True ∧ True ∧ True ∧ True ∧ cnd (casB (clearM m) 2 x.v) (Lim (70000 : Nat) (Wk.with26
  (Wk.with14 (Wk.with0 x 0) 0) false) ∧ K (Md.mk m.c (seeM (clearM m) (Acc.mk 3 2 x.v (headW (wr (x.i - (1 : Int))) (wu (hdV x.v + (1 : Int)))) 0)) (if casB (clearM m) 2 x.v = true then List.set m.ws
  (Int.toNat (2 : Int)) (headW (wr (x.i - (1 : Int))) (wu (hdV x.v + (1 : Int)))) else m.ws)) (giveBackW (Wk.with26 (Wk.with14 (Wk.with0 x 0) 0) false), true)) (K (Md.mk m.c (seeM (clearM m) (Acc.mk 3 2
  x.v (headW (wr (x.i - (1 : Int))) (wu (hdV x.v + (1 : Int)))) 0)) (if casB (clearM m) 2 x.v = true then List.set m.ws (Int.toNat (2 : Int)) (headW (wr (x.i - (1 : Int))) (wu (hdV x.v + (1 : Int))))
  else m.ws)) (Wk.with26 (Wk.with0 x (wr (wr (wr (Int.tdiv (25 : Int) (10 : Int)) * (10 : Int)) + (3 : Int)))) false, true))) := by kernel_rfl

theorem vc_st44 (K : Md → (Wk × Bool) → Prop) (m : Md) (w : Int) (x : Wk) : aexecF cnd cx ΓH noSpec 300 Tryz.f40 (codeOf Tryz.f40) (.ptr 0 0 :: aWX.enc (w, Wk.with26 (Wk.with0 x 44) false)) (GM.gr m)
  (fun y R => rdG GM cdWB y R K) = ( True ∧ True ∧ True ∧ True ∧ True ∧ True ∧ True ∧ cnd ((entS (rdW (clearM m) (entryV m.c (tkE x.t))) == (1 : Int)) == true) (cnd (entG (rdW (clearM m) (entryV m.c
  (tkE x.t))) == tkG x.t) (Easy (Wk.with26 (Wk.with19 (Wk.with15 (Wk.with0 x 0) (wr (entB (rdW (clearM m) (entryV m.c (tkE x.t))) + (1 : Int)))) (rdW (clearM m) (entryV m.c (tkE x.t)))) false) ∧ Easy
  (Wk.with26 (Wk.with19 (Wk.with15 (Wk.with0 x 0) (wr (entB (rdW (clearM m) (entryV m.c (tkE x.t))) + (1 : Int)))) (rdW (clearM m) (entryV m.c (tkE x.t)))) false) ∧ cnd (!decide ((↑(List.length (bagL
  (nowX (Wk.with26 (Wk.with19 (Wk.with15 (Wk.with0 x 0) (wr (entB (rdW (clearM m) (entryV m.c (tkE x.t))) + (1 : Int)))) (rdW (clearM m) (entryV m.c (tkE x.t)))) false)) (idxW (Wk.with26 (Wk.with19
  (Wk.with15 (Wk.with0 x 0) (wr (entB (rdW (clearM m) (entryV m.c (tkE x.t))) + (1 : Int)))) (rdW (clearM m) (entryV m.c (tkE x.t)))) false)))) : Int) < m.c.a)) (Lim (60000 : Nat) (nowX (Wk.with26
  (Wk.with19 (Wk.with15 (Wk.with0 x 0) (wr (entB (rdW (clearM m) (entryV m.c (tkE x.t))) + (1 : Int)))) (rdW (clearM m) (entryV m.c (tkE x.t)))) false)) ∧ K (Md.with1 m (seeM (clearM m) (Acc.mk 1
  (entryV m.c (tkE x.t)) 0 0 0))) (failW (nowX (Wk.with26 (Wk.with19 (Wk.with15 (Wk.with0 x 0) (wr (entB (rdW (clearM m) (entryV m.c (tkE x.t))) + (1 : Int)))) (rdW (clearM m) (entryV m.c (tkE x.t))))
  false), (6 : Int)), true)) (K (Md.with1 m (seeM (clearM m) (Acc.mk 1 (entryV m.c (tkE x.t)) 0 0 0))) (Wk.with0 (nowX (Wk.with26 (Wk.with19 (Wk.with15 (Wk.with0 x 0) (wr (entB (rdW (clearM m) (entryV
  m.c (tkE x.t))) + (1 : Int)))) (rdW (clearM m) (entryV m.c (tkE x.t)))) false)) 45, true))) (Lim (60000 : Nat) (Wk.with26 (Wk.with0 x 0) false) ∧ K (Md.with1 m (seeM (clearM m) (Acc.mk 1 (entryV m.c
  (tkE x.t)) 0 0 0))) (failW (Wk.with26 (Wk.with0 x 0) false, (7 : Int)), true))) (Lim (60000 : Nat) (Wk.with26 (Wk.with0 x 0) false) ∧ K (Md.with1 m (seeM (clearM m) (Acc.mk 1 (entryV m.c (tkE x.t)) 0
  0 0))) (failW (Wk.with26 (Wk.with0 x 0) false, (7 : Int)), true))) := by kernel_rfl

theorem vc_st62 (K : Md → (Wk × Bool) → Prop) (m : Md) (w : Int) (x : Wk) : aexecF cnd cx ΓH noSpec 300 Tryz.f40 (codeOf Tryz.f40) (.ptr 0 0 :: aWX.enc (w, Wk.with26 (Wk.with0 x 62) false)) (GM.gr m)
  (fun y R => rdG GM cdWB y R K) = ( True ∧ True ∧ True ∧ True ∧ True ∧ cnd (decide (wr ((0 : Int) + (↑(List.length x.read) : Int)) < (0 : Int))) False (cnd (decide (wr (wr ((0 : Int) + (↑(List.length
  x.read) : Int)) + (↑(List.length [rdW (clearM m) (wordV m.c (wr (x.bor - (1 : Int))) x.j)]) : Int)) < (0 : Int))) False (cnd (decide (wr (wr ((0 : Int) + (↑(List.length x.read) : Int)) +
  (↑(List.length [rdW (clearM m) (wordV m.c (wr (x.bor - (1 : Int))) x.j)]) : Int)) < (0 : Int))) False (cnd (decide (wr (wr (wr ((0 : Int) + (↑(List.length x.read) : Int)) + (↑(List.length [rdW (clearM
  m) (wordV m.c (wr (x.bor - (1 : Int))) x.j)]) : Int)) - (0 : Int)) > (0 : Int))) ((0 : Int) = (0 : Int) ∧ ((0 : Int) < wr (wr (wr ((0 : Int) + (↑(List.length x.read) : Int)) + (↑(List.length [rdW
  (clearM m) (wordV m.c (wr (x.bor - (1 : Int))) x.j)]) : Int)) - (0 : Int)) ∧ (↑(8 : Nat) : Int) * wr (wr (wr ((0 : Int) + (↑(List.length x.read) : Int)) + (↑(List.length [rdW (clearM m) (wordV m.c (wr
  (x.bor - (1 : Int))) x.j)]) : Int)) - (0 : Int)) ≤ (140737488355328 : Int) ∧ wr (wr (wr ((0 : Int) + (↑(List.length x.read) : Int)) + (↑(List.length [rdW (clearM m) (wordV m.c (wr (x.bor - (1 : Int)))
  x.j)]) : Int)) - (0 : Int)) ≤ (140737488355328 : Int)) ∧ ((0 : Int) ≤ (0 : Int) ∧ (0 : Int) ≤ (↑(List.length (List.replicate (Int.toNat (wr (wr (wr ((0 : Int) + (↑(List.length x.read) : Int)) +
  (↑(List.length [rdW (clearM m) (wordV m.c (wr (x.bor - (1 : Int))) x.j)]) : Int)) - (0 : Int)))) (0 : Int))) : Int)) ∧ ((List.length (List.take (0 : Nat) (List.replicate (Int.toNat (wr (wr (wr ((0 :
  Int) + (↑(List.length x.read) : Int)) + (↑(List.length [rdW (clearM m) (wordV m.c (wr (x.bor - (1 : Int))) x.j)]) : Int)) - (0 : Int)))) (0 : Int))) + List.length x.read) * (8 : Nat) ≤
  (140737488355328 : Nat) ∧ List.length (List.take (0 : Nat) (List.replicate (Int.toNat (wr (wr (wr ((0 : Int) + (↑(List.length x.read) : Int)) + (↑(List.length [rdW (clearM m) (wordV m.c (wr (x.bor -
  (1 : Int))) x.j)]) : Int)) - (0 : Int)))) (0 : Int))) + List.length x.read ≤ (140737488355328 : Nat)) ∧ ((List.length (List.take (0 : Nat) (List.replicate (Int.toNat (wr (wr (wr ((0 : Int) +
  (↑(List.length x.read) : Int)) + (↑(List.length [rdW (clearM m) (wordV m.c (wr (x.bor - (1 : Int))) x.j)]) : Int)) - (0 : Int)))) (0 : Int)) ++ x.read) + List.length [rdW (clearM m) (wordV m.c (wr
  (x.bor - (1 : Int))) x.j)]) * (8 : Nat) ≤ (140737488355328 : Nat) ∧ List.length (List.take (0 : Nat) (List.replicate (Int.toNat (wr (wr (wr ((0 : Int) + (↑(List.length x.read) : Int)) + (↑(List.length
  [rdW (clearM m) (wordV m.c (wr (x.bor - (1 : Int))) x.j)]) : Int)) - (0 : Int)))) (0 : Int)) ++ x.read) + List.length [rdW (clearM m) (wordV m.c (wr (x.bor - (1 : Int))) x.j)] ≤ (140737488355328 :
  Nat)) ∧ cnd (decide (wr (x.j + (1 : Int)) < m.c.o)) (K (Md.with1 m (seeM (clearM m) (Acc.mk 1 (wordV m.c (wr (x.bor - (1 : Int))) x.j) 0 0 0))) (Wk.with26 (Wk.with23 (Wk.with22 (Wk.with0 x 62) (wr
  (x.j + (1 : Int)))) (List.take (0 : Nat) (List.replicate (Int.toNat (wr (wr (wr ((0 : Int) + (↑(List.length x.read) : Int)) + (↑(List.length [rdW (clearM m) (wordV m.c (wr (x.bor - (1 : Int))) x.j)])
  : Int)) - (0 : Int)))) (0 : Int)) ++ x.read ++ [rdW (clearM m) (wordV m.c (wr (x.bor - (1 : Int))) x.j)])) false, true)) (K (Md.with1 m (seeM (clearM m) (Acc.mk 1 (wordV m.c (wr (x.bor - (1 : Int)))
  x.j) 0 0 0))) (Wk.with26 (Wk.with23 (Wk.with22 (Wk.with0 x 0) (wr (x.j + (1 : Int)))) (List.take (0 : Nat) (List.replicate (Int.toNat (wr (wr (wr ((0 : Int) + (↑(List.length x.read) : Int)) +
  (↑(List.length [rdW (clearM m) (wordV m.c (wr (x.bor - (1 : Int))) x.j)]) : Int)) - (0 : Int)))) (0 : Int)) ++ x.read ++ [rdW (clearM m) (wordV m.c (wr (x.bor - (1 : Int))) x.j)])) false, true)))
  ((((0 : Nat) + List.length x.read) * (8 : Nat) ≤ (140737488355328 : Nat) ∧ (0 : Nat) + List.length x.read ≤ (140737488355328 : Nat)) ∧ ((List.length ([] ++ x.read) + List.length [rdW (clearM m) (wordV
  m.c (wr (x.bor - (1 : Int))) x.j)]) * (8 : Nat) ≤ (140737488355328 : Nat) ∧ List.length ([] ++ x.read) + List.length [rdW (clearM m) (wordV m.c (wr (x.bor - (1 : Int))) x.j)] ≤ (140737488355328 :
  Nat)) ∧ cnd (decide (wr (x.j + (1 : Int)) < m.c.o)) (K (Md.with1 m (seeM (clearM m) (Acc.mk 1 (wordV m.c (wr (x.bor - (1 : Int))) x.j) 0 0 0))) (Wk.with26 (Wk.with23 (Wk.with22 (Wk.with0 x 62) (wr
  (x.j + (1 : Int)))) ([] ++ x.read ++ [rdW (clearM m) (wordV m.c (wr (x.bor - (1 : Int))) x.j)])) false, true)) (K (Md.with1 m (seeM (clearM m) (Acc.mk 1 (wordV m.c (wr (x.bor - (1 : Int))) x.j) 0 0
  0))) (Wk.with26 (Wk.with23 (Wk.with22 (Wk.with0 x 0) (wr (x.j + (1 : Int)))) ([] ++ x.read ++ [rdW (clearM m) (wordV m.c (wr (x.bor - (1 : Int))) x.j)])) false, true))))))) := by kernel_rfl

theorem vc_st30g (K : Md → (Wk × Bool) → Prop) (m : Md) (w : Int) (x : Wk) : aexecF cnd cx ΓH noSpec 300 Tryz.f40 (codeOf Tryz.f40) (.ptr 0 0 :: aWX.enc (w, Wk.with26 (Wk.with0 x 30) true)) (GM.gr m)
  (fun y R => rdG GM cdWB y R K) = ( True ∧ True ∧ True ∧ True ∧ True ∧ True ∧ True ∧ True ∧ True ∧ True ∧ cnd (slbP (wu ((if inM (clearM m) (slabV m.c (homeV m.c (wr (x.k - (1 : Int))))) = true then wu
  (addV (clearM m) (slabV m.c (homeV m.c (wr (x.k - (1 : Int))))) 16 - (16 : Int)) else (0 : Int)) + (16 : Int))) == m.c.b) (K (Md.mk m.c (seeM (clearM m) (Acc.mk 4 (slabV m.c (homeV m.c (wr (x.k - (1 :
  Int))))) 16 0 0)) (if inM (clearM m) (slabV m.c (homeV m.c (wr (x.k - (1 : Int))))) = true then List.set m.ws (Int.toNat (slabV m.c (homeV m.c (wr (x.k - (1 : Int)))))) (addV (clearM m) (slabV m.c
  (homeV m.c (wr (x.k - (1 : Int))))) 16) else m.ws)) (Wk.with26 (Wk.with0 x 31) true, true)) (Lim (70000 : Nat) (Wk.with26 (Wk.with13 (Wk.with0 x 0) 0) true) ∧ cnd ((giveBeginW (Wk.with26 (Wk.with13
  (Wk.with0 x 0) 0) true)).snd == (1 : Int)) (True ∧ K (Md.mk m.c (seeM (clearM m) (Acc.mk 4 (slabV m.c (homeV m.c (wr (x.k - (1 : Int))))) 16 0 0)) (if inM (clearM m) (slabV m.c (homeV m.c (wr (x.k -
  (1 : Int))))) = true then List.set m.ws (Int.toNat (slabV m.c (homeV m.c (wr (x.k - (1 : Int)))))) (addV (clearM m) (slabV m.c (homeV m.c (wr (x.k - (1 : Int))))) 16) else m.ws)) (throughW (giveBeginW
  (Wk.with26 (Wk.with13 (Wk.with0 x 0) 0) true)).fst, true)) (cnd ((giveBeginW (Wk.with26 (Wk.with13 (Wk.with0 x 0) 0) true)).snd == (2 : Int)) (True ∧ K (Md.mk m.c (seeM (clearM m) (Acc.mk 4 (slabV m.c
  (homeV m.c (wr (x.k - (1 : Int))))) 16 0 0)) (if inM (clearM m) (slabV m.c (homeV m.c (wr (x.k - (1 : Int))))) = true then List.set m.ws (Int.toNat (slabV m.c (homeV m.c (wr (x.k - (1 : Int))))))
  (addV (clearM m) (slabV m.c (homeV m.c (wr (x.k - (1 : Int))))) 16) else m.ws)) (throughW (giveBeginW (Wk.with26 (Wk.with13 (Wk.with0 x 0) 0) true)).fst, true)) (K (Md.mk m.c (seeM (clearM m) (Acc.mk
  4 (slabV m.c (homeV m.c (wr (x.k - (1 : Int))))) 16 0 0)) (if inM (clearM m) (slabV m.c (homeV m.c (wr (x.k - (1 : Int))))) = true then List.set m.ws (Int.toNat (slabV m.c (homeV m.c (wr (x.k - (1 :
  Int)))))) (addV (clearM m) (slabV m.c (homeV m.c (wr (x.k - (1 : Int))))) 16) else m.ws)) ((giveBeginW (Wk.with26 (Wk.with13 (Wk.with0 x 0) 0) true)).fst, true))))) := by kernel_rfl

end Go.Proofs.YtaeepogbgflbpaaGreat
end

/- What one step of an operation comes to, line by line, printed. No condition. -/
section
set_option linter.unusedVariables false
set_option linter.unusedSimpArgs false
set_option maxRecDepth 100000
set_option maxHeartbeats 4000000
namespace Go.Proofs.YtaeepogbgflbpaaGreat
open Go Go.Ax

theorem vc_st2 (K : Md → (Wk × Bool) → Prop) (m : Md) (w : Int) (x : Wk) : aexecF cnd cx ΓH noSpec 300 Tryz.f40 (codeOf Tryz.f40) (.ptr 0 0 :: aWX.enc (w, Wk.with26 (Wk.with0 x 2) false)) (GM.gr m)
  (fun y R => rdG GM cdWB y R K) = ( True ∧ True ∧ True ∧ True ∧ True ∧ True ∧ True ∧ K (Md.mk m.c (seeM (clearM m) (Acc.mk 2 (announceV m.c w) (annW x.e true) 0 0)) (if inM (clearM m) (announceV m.c w)
  = true then List.set m.ws (Int.toNat (announceV m.c w)) (annW x.e true) else m.ws)) (Wk.with26 (Wk.with0 x 3) false, true)) := by kernel_rfl

theorem vc_st71 (K : Md → (Wk × Bool) → Prop) (m : Md) (w : Int) (x : Wk) : aexecF cnd cx ΓH noSpec 300 Tryz.f40 (codeOf Tryz.f40) (.ptr 0 0 :: aWX.enc (w, Wk.with26 (Wk.with0 x 71) false)) (GM.gr m)
  (fun y R => rdG GM cdWB y R K) = ( True ∧ True ∧ True ∧ True ∧ True ∧ True ∧ True ∧ True ∧ True ∧ cnd (annA (rdW (clearM m) (announceV m.c x.j)) == true) (cnd (annE (rdW (clearM m) (announceV m.c
  x.j)) != x.v) (K (Md.with1 m (seeM (clearM m) (Acc.mk 1 (announceV m.c x.j) 0 0 0))) (Wk.with26 (Wk.with0 x 73) false, true)) (cnd (decide (x.j ≥ wr (m.c.w - (1 : Int)))) (K (Md.with1 m (seeM (clearM
  m) (Acc.mk 1 (announceV m.c x.j) 0 0 0))) (Wk.with26 (Wk.with22 (Wk.with0 x 72) (wr (x.j + (1 : Int)))) false, true)) (K (Md.with1 m (seeM (clearM m) (Acc.mk 1 (announceV m.c x.j) 0 0 0))) (Wk.with26
  (Wk.with22 (Wk.with0 x 71) (wr (x.j + (1 : Int)))) false, true)))) (cnd (decide (x.j ≥ wr (m.c.w - (1 : Int)))) (K (Md.with1 m (seeM (clearM m) (Acc.mk 1 (announceV m.c x.j) 0 0 0))) (Wk.with26
  (Wk.with22 (Wk.with0 x 72) (wr (x.j + (1 : Int)))) false, true)) (K (Md.with1 m (seeM (clearM m) (Acc.mk 1 (announceV m.c x.j) 0 0 0))) (Wk.with26 (Wk.with22 (Wk.with0 x 71) (wr (x.j + (1 : Int))))
  false, true)))) := by kernel_rfl

theorem vc_st37 (K : Md → (Wk × Bool) → Prop) (m : Md) (w : Int) (x : Wk) : aexecF cnd cx ΓH noSpec 300 Tryz.f40 (codeOf Tryz.f40) (.ptr 0 0 :: aWX.enc (w, Wk.with26 (Wk.with0 x 37) false)) (GM.gr m)
  (fun y R => rdG GM cdWB y R K) = ( True ∧ True ∧ True ∧ True ∧ True ∧ True ∧ True ∧ True ∧ True ∧ cnd (casB (clearM m) (slabV m.c x.op.s) x.v) (K (Md.mk m.c (seeM (clearM m) (Acc.mk 3 (slabV m.c
  x.op.s) x.v 2 0)) (if casB (clearM m) (slabV m.c x.op.s) x.v = true then List.set m.ws (Int.toNat (slabV m.c x.op.s)) (2 : Int) else m.ws)) (Wk.with26 (Wk.with25 (Wk.with0 x 0) 0) false, true)) (K
  (Md.mk m.c (seeM (clearM m) (Acc.mk 3 (slabV m.c x.op.s) x.v 2 0)) (if casB (clearM m) (slabV m.c x.op.s) x.v = true then List.set m.ws (Int.toNat (slabV m.c x.op.s)) (2 : Int) else m.ws)) (Wk.with26
  (Wk.with0 x 36) false, true))) := by kernel_rfl

theorem vc_st30 (K : Md → (Wk × Bool) → Prop) (m : Md) (w : Int) (x : Wk) : aexecF cnd cx ΓH noSpec 300 Tryz.f40 (codeOf Tryz.f40) (.ptr 0 0 :: aWX.enc (w, Wk.with26 (Wk.with0 x 30) false)) (GM.gr m)
  (fun y R => rdG GM cdWB y R K) = ( True ∧ True ∧ True ∧ True ∧ True ∧ True ∧ True ∧ True ∧ True ∧ True ∧ True ∧ True ∧ cnd (slbP (wu ((if inM (clearM m) (slabV m.c (homeV m.c (wr (x.k - (1 : Int)))))
  = true then wu (addV (clearM m) (slabV m.c (homeV m.c (wr (x.k - (1 : Int))))) 16 - (16 : Int)) else (0 : Int)) + (16 : Int))) == m.c.b) (K (Md.mk m.c (seeM (clearM m) (Acc.mk 4 (slabV m.c (homeV m.c
  (wr (x.k - (1 : Int))))) 16 0 0)) (if inM (clearM m) (slabV m.c (homeV m.c (wr (x.k - (1 : Int))))) = true then List.set m.ws (Int.toNat (slabV m.c (homeV m.c (wr (x.k - (1 : Int)))))) (addV (clearM
  m) (slabV m.c (homeV m.c (wr (x.k - (1 : Int))))) 16) else m.ws)) (Wk.with26 (Wk.with0 x 31) false, true)) (Lim (70000 : Nat) (Wk.with26 (Wk.with13 (Wk.with0 x 0) 0) false) ∧ K (Md.mk m.c (seeM
  (clearM m) (Acc.mk 4 (slabV m.c (homeV m.c (wr (x.k - (1 : Int))))) 16 0 0)) (if inM (clearM m) (slabV m.c (homeV m.c (wr (x.k - (1 : Int))))) = true then List.set m.ws (Int.toNat (slabV m.c (homeV
  m.c (wr (x.k - (1 : Int)))))) (addV (clearM m) (slabV m.c (homeV m.c (wr (x.k - (1 : Int))))) 16) else m.ws)) (takeBeginW (Wk.with26 (Wk.with13 (Wk.with0 x 0) 0) false), true))) := by kernel_rfl

theorem vc_st34 (K : Md → (Wk × Bool) → Prop) (m : Md) (w : Int) (x : Wk) : aexecF cnd cx ΓH noSpec 300 Tryz.f40 (codeOf Tryz.f40) (.ptr 0 0 :: aWX.enc (w, Wk.with26 (Wk.with0 x 34) false)) (GM.gr m)
  (fun y R => rdG GM cdWB y R K) = ( True ∧ True ∧ True ∧ True ∧ True ∧ True ∧ True ∧ True ∧ True ∧ True ∧ True ∧ cnd (casB (clearM m) (slabV m.c x.j) x.v) (((1 : Int) ≤ m.c.b ∧ m.c.b ≤ (16 : Int) ∧
  Bear (Wk.with26 (Wk.with0 x 0) false) ∧ List.length x.hold ≤ (90000 : Nat)) ∧ K (Md.mk m.c (seeM (clearM m) (Acc.mk 3 (slabV m.c x.j) x.v 1 0)) (if casB (clearM m) (slabV m.c x.j) x.v = true then
  List.set m.ws (Int.toNat (slabV m.c x.j)) (1 : Int) else m.ws)) (Wk.with26 (Wk.with22 (Wk.with12 (Wk.with11 (Wk.with0 x 50) (x.hold ++ claimL (wr (x.j * m.c.b)) (Int.toNat m.c.b))) (wr (wr (x.j *
  m.c.b) + (1 : Int)))) 0) false, true)) (K (Md.mk m.c (seeM (clearM m) (Acc.mk 3 (slabV m.c x.j) x.v 1 0)) (if casB (clearM m) (slabV m.c x.j) x.v = true then List.set m.ws (Int.toNat (slabV m.c x.j))
  (1 : Int) else m.ws)) (Wk.with26 (Wk.with0 x 33) false, true))) := by kernel_rfl

theorem vc_st20 (K : Md → (Wk × Bool) → Prop) (m : Md) (w : Int) (x : Wk) : aexecF cnd cx ΓH noSpec 300 Tryz.f40 (codeOf Tryz.f40) (.ptr 0 0 :: aWX.enc (w, Wk.with26 (Wk.with0 x 20) false)) (GM.gr m)
  (fun y R => rdG GM cdWB y R K) = ( True ∧ True ∧ True ∧ ((10 : Int) = (0 : Int) → False) ∧ True ∧ True ∧ cnd (lowW (rdW (clearM m) 2) == (0 : Int)) (Lim (60000 : Nat) (Wk.with26 (Wk.with19 (Wk.with17
  (Wk.with0 x 0) (lowW (rdW (clearM m) 2))) (rdW (clearM m) 2)) false) ∧ K (Md.with1 m (seeM (clearM m) (Acc.mk 1 2 0 0 0))) (failW (Wk.with26 (Wk.with19 (Wk.with17 (Wk.with0 x 0) (lowW (rdW (clearM m)
  2))) (rdW (clearM m) 2)) false, (5 : Int)), true)) (K (Md.with1 m (seeM (clearM m) (Acc.mk 1 2 0 0 0))) (Wk.with26 (Wk.with19 (Wk.with17 (Wk.with0 x (wr ((20 : Int) + (1 : Int)))) (lowW (rdW (clearM
  m) 2))) (rdW (clearM m) 2)) false, true))) := by kernel_rfl

theorem vc_st41 (K : Md → (Wk × Bool) → Prop) (m : Md) (w : Int) (x : Wk) : aexecF cnd cx ΓH noSpec 300 Tryz.f40 (codeOf Tryz.f40) (.ptr 0 0 :: aWX.enc (w, Wk.with26 (Wk.with0 x 41) false)) (GM.gr m)
  (fun y R => rdG GM cdWB y R K) = ( True ∧ True ∧ True ∧ True ∧ True ∧ True ∧ True ∧ True ∧ True ∧ True ∧ True ∧ True ∧ Lim (70000 : Nat) (Wk.with26 (Wk.with24 (Wk.with14 (Wk.with12 (Wk.with0 x 0) 0)
  0) (tickW (wr (x.i - (1 : Int))) x.g)) false) ∧ K (Md.mk m.c (seeM (clearM m) (Acc.mk 2 (entryV m.c (wr (x.i - (1 : Int)))) (entryW x.g (wr (x.b - (1 : Int))) 1) 0 0)) (if inM (clearM m) (entryV m.c
  (wr (x.i - (1 : Int)))) = true then List.set m.ws (Int.toNat (entryV m.c (wr (x.i - (1 : Int))))) (entryW x.g (wr (x.b - (1 : Int))) 1) else m.ws)) (giveBackW (Wk.with26 (Wk.with24 (Wk.with14
  (Wk.with12 (Wk.with0 x 0) 0) 0) (tickW (wr (x.i - (1 : Int))) x.g)) false), true)) := by kernel_rfl

theorem vc_st42 (K : Md → (Wk × Bool) → Prop) (m : Md) (w : Int) (x : Wk) : aexecF cnd cx ΓH noSpec 300 Tryz.f40 (codeOf Tryz.f40) (.ptr 0 0 :: aWX.enc (w, Wk.with26 (Wk.with0 x 42) false)) (GM.gr m)
  (fun y R => rdG GM cdWB y R K) = ( True ∧ True ∧ True ∧ True ∧ True ∧ True ∧ True ∧ cnd ((entS (rdW (clearM m) (entryV m.c (tkE x.t))) == (1 : Int)) == true) (cnd (entG (rdW (clearM m) (entryV m.c
  (tkE x.t))) == tkG x.t) (Easy (Wk.with26 (Wk.with19 (Wk.with15 (Wk.with0 x 0) (wr (entB (rdW (clearM m) (entryV m.c (tkE x.t))) + (1 : Int)))) (rdW (clearM m) (entryV m.c (tkE x.t)))) false) ∧ Easy
  (Wk.with26 (Wk.with19 (Wk.with15 (Wk.with0 x 0) (wr (entB (rdW (clearM m) (entryV m.c (tkE x.t))) + (1 : Int)))) (rdW (clearM m) (entryV m.c (tkE x.t)))) false) ∧ cnd (!decide ((↑(List.length (bagL
  (nowX (Wk.with26 (Wk.with19 (Wk.with15 (Wk.with0 x 0) (wr (entB (rdW (clearM m) (entryV m.c (tkE x.t))) + (1 : Int)))) (rdW (clearM m) (entryV m.c (tkE x.t)))) false)) (idxW (Wk.with26 (Wk.with19
  (Wk.with15 (Wk.with0 x 0) (wr (entB (rdW (clearM m) (entryV m.c (tkE x.t))) + (1 : Int)))) (rdW (clearM m) (entryV m.c (tkE x.t)))) false)))) : Int) < m.c.a)) (Lim (60000 : Nat) (nowX (Wk.with26
  (Wk.with19 (Wk.with15 (Wk.with0 x 0) (wr (entB (rdW (clearM m) (entryV m.c (tkE x.t))) + (1 : Int)))) (rdW (clearM m) (entryV m.c (tkE x.t)))) false)) ∧ K (Md.with1 m (seeM (clearM m) (Acc.mk 1
  (entryV m.c (tkE x.t)) 0 0 0))) (failW (nowX (Wk.with26 (Wk.with19 (Wk.with15 (Wk.with0 x 0) (wr (entB (rdW (clearM m) (entryV m.c (tkE x.t))) + (1 : Int)))) (rdW (clearM m) (entryV m.c (tkE x.t))))
  false), (6 : Int)), true)) (K (Md.with1 m (seeM (clearM m) (Acc.mk 1 (entryV m.c (tkE x.t)) 0 0 0))) (Wk.with0 (nowX (Wk.with26 (Wk.with19 (Wk.with15 (Wk.with0 x 0) (wr (entB (rdW (clearM m) (entryV
  m.c (tkE x.t))) + (1 : Int)))) (rdW (clearM m) (entryV m.c (tkE x.t)))) false)) 43, true))) (Lim (60000 : Nat) (Wk.with26 (Wk.with0 x 0) false) ∧ K (Md.with1 m (seeM (clearM m) (Acc.mk 1 (entryV m.c
  (tkE x.t)) 0 0 0))) (failW (Wk.with26 (Wk.with0 x 0) false, (7 : Int)), true))) (Lim (60000 : Nat) (Wk.with26 (Wk.with0 x 0) false) ∧ K (Md.with1 m (seeM (clearM m) (Acc.mk 1 (entryV m.c (tkE x.t)) 0
  0 0))) (failW (Wk.with26 (Wk.with0 x 0) false, (7 : Int)), true))) := by kernel_rfl

theorem vc_st45 (K : Md → (Wk × Bool) → Prop) (m : Md) (w : Int) (x : Wk) : aexecF cnd cx ΓH noSpec 300 Tryz.f40 (codeOf Tryz.f40) (.ptr 0 0 :: aWX.enc (w, Wk.with26 (Wk.with0 x 45) false)) (GM.gr m)
  (fun y R => rdG GM cdWB y R K) = ( True ∧ True ∧ True ∧ True ∧ True ∧ True ∧ True ∧ True ∧ True ∧ cnd (casB (clearM m) (entryV m.c (tkE x.t)) x.v) (Easy (Wk.with26 (Wk.with12 (Wk.with0 x 0) 0) false)
  ∧ Easy (Wk.with26 (Wk.with12 (Wk.with0 x 0) 0) false) ∧ Lim (70000 : Nat) (Wk.with15 (bagPut (m.c, Wk.with26 (Wk.with12 (Wk.with0 x 0) 0) false, wr (x.c - (1 : Int)))).fst 0) ∧ K (Md.mk m.c (seeM
  (clearM m) (Acc.mk 3 (entryV m.c (tkE x.t)) x.v (entryW (tkG x.t) (wr (x.b - (1 : Int))) 1) 0)) (if casB (clearM m) (entryV m.c (tkE x.t)) x.v = true then List.set m.ws (Int.toNat (entryV m.c (tkE
  x.t))) (entryW (tkG x.t) (wr (x.b - (1 : Int))) 1) else m.ws)) (giveBackW (Wk.with15 (bagPut (m.c, Wk.with26 (Wk.with12 (Wk.with0 x 0) 0) false, wr (x.c - (1 : Int)))).fst 0), true)) (K (Md.mk m.c
  (seeM (clearM m) (Acc.mk 3 (entryV m.c (tkE x.t)) x.v (entryW (tkG x.t) (wr (x.b - (1 : Int))) 1) 0)) (if casB (clearM m) (entryV m.c (tkE x.t)) x.v = true then List.set m.ws (Int.toNat (entryV m.c
  (tkE x.t))) (entryW (tkG x.t) (wr (x.b - (1 : Int))) 1) else m.ws)) (Wk.with26 (Wk.with0 x 44) false, true))) := by kernel_rfl

theorem vc_st13g (K : Md → (Wk × Bool) → Prop) (m : Md) (w : Int) (x : Wk) : aexecF cnd cx ΓH noSpec 300 Tryz.f40 (codeOf Tryz.f40) (.ptr 0 0 :: aWX.enc (w, Wk.with26
  (Wk.with0 x 13) true)) (GM.gr m) (fun y R => rdG GM cdWB y R K) = ( True ∧ True ∧ True ∧ ((10 : Int) = (0 : Int) → False) ∧ True ∧ K (Md.with1 m (seeM (clearM m) (Acc.mk
  (1 : Int) (1 : Int) (0 : Int) (0 : Int) (0 : Int)))) (Wk.with26 (Wk.with19 (Wk.with0 x (wr ((13 : Int) + (1 : Int)))) (rdW (clearM m) (1 : Int))) true, true)) := by
  kernel_rfl

theorem vc_st31g (K : Md → (Wk × Bool) → Prop) (m : Md) (w : Int) (x : Wk) : aexecF cnd cx ΓH noSpec 300 Tryz.f40 (codeOf Tryz.f40) (.ptr 0 0 :: aWX.enc (w, Wk.with26 (Wk.with0 x 31) true)) (GM.gr m)
  (fun y R => rdG GM cdWB y R K) = ( True ∧ True ∧ True ∧ True ∧ K (Md.with1 m (seeM (clearM m) (Acc.mk 1 0 0 0 0))) (Wk.with26 (Wk.with19 (Wk.with0 x 32) (rdW (clearM m) 0)) true, true)) := by
  kernel_rfl

end Go.Proofs.YtaeepogbgflbpaaGreat
end
