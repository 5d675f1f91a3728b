/- The examples of the buckets; sums of lists; the loops of BagRoom and BagWaits. No condition. -/
import Derived.Test.YtggaecdhgbdilaaVc11
set_option linter.unusedVariables false
set_option linter.unusedSimpArgs false
set_option maxRecDepth 100000
namespace Go.Proofs.Ytggaecdhgbdilaa
open Go Go.Ax

theorem bawake_told : aexecF cnd cx Γ9 noSpec 100 Try.f23 (codeOf Try.f23) [] [] (fun y _ => y = .bool true) := by
  have e := vc_bawake (fun y => y = .bool true)
  rw [e]; clear e
  refine ⟨?_, ?_, ?_, ?_, ?_, rfl⟩ <;> exact ⟨by unfold small; decide +kernel, by unfold small; decide +kernel, by decide +kernel⟩
theorem ok23 : GOk cx 23 gYes := tell_ctr Γ9_ok Try.func23 (body_of (by kernel_rfl)) Try.call23 (n := 100) (fun x _ => by
  have h := bawake_told
  have e1 : (fun (y : AVal El) (R : List (Res El)) => y = AVal.bool true ∧ matchR R []) = fun y _ => y = AVal.bool true := by funext y R; simp [matchR]
  show aexecF cnd cx Γ9 noSpec 100 Try.f23 (codeOf Try.f23) [] [] (fun (y : AVal El) (R : List (Res El)) => y = AVal.bool true ∧ matchR R [])
  rw [e1]; exact h)
theorem ΓB_ok : ∀ f g, ΓB f = some g → GOk cx f g := addΓ_ok Γ9_ok ok23
def sumW (x : Wk) : Nat := x.hold.length + x.l0.length + x.l1.length + x.l2.length
theorem rr_set (x : Wk) (i t : Int) (l : List Int) : (setBag x i t l).rack = x.rack ∧ (setBag x i t l).read = x.read ∧ (setBag x i t l).e = x.e := by
  unfold setBag; split
  · exact ⟨rfl, rfl, rfl⟩
  · split <;> exact ⟨rfl, rfl, rfl⟩
theorem rr_now (x : Wk) : (nowX x).rack = x.rack ∧ (nowX x).read = x.read := by
  unfold nowX; split
  · exact ⟨rfl, rfl⟩
  · obtain ⟨h1, h2, _⟩ := rr_set (holdW (x, bagL x (idxW x))) (idxW x) (tagW x) []; exact ⟨h1, h2⟩
theorem sum_move (x : Wk) (i t : Int) : sumW (setBag (holdW (x, bagL x i)) i t []) = sumW x := by
  unfold sumW setBag holdW bagL
  split
  · simp
  · split
    · simp only [List.length_append, List.length_nil]; omega
    · simp only [List.length_append, List.length_nil]; omega
theorem sum_now (x : Wk) : sumW (nowX x) = sumW x := by
  unfold nowX; split
  · rfl
  · exact sum_move ..
theorem sum_add (x : Wk) (i t b : Int) : sumW (setBag x i t (bagL x i ++ [b])) = sumW x + 1 := by
  unfold sumW setBag bagL
  split
  · simp only [List.length_append, List.length_cons, List.length_nil]; omega
  · split <;> simp only [List.length_append, List.length_cons, List.length_nil] <;> omega
theorem sum_put (y : Cfg × Wk × Int) : sumW (bagPut y).1 ≤ sumW y.2.1 + 1 := by
  unfold bagPut; split
  · show sumW (setBag _ _ _ _) ≤ _
    rw [sum_add, sum_now]; exact Nat.le_refl _
  · show sumW (nowX _) ≤ _
    rw [sum_now]; omega
theorem rr_put (y : Cfg × Wk × Int) : (bagPut y).1.rack = y.2.1.rack ∧ (bagPut y).1.read = y.2.1.read := by
  unfold bagPut; split
  · obtain ⟨h1, h2, _⟩ := rr_set (nowX y.2.1) (idxW y.2.1) (tagW y.2.1) (bagL (nowX y.2.1) (idxW y.2.1) ++ [y.2.2])
    obtain ⟨h3, h4⟩ := rr_now y.2.1
    exact ⟨h1.trans h3, h2.trans h4⟩
  · exact rr_now _
theorem sum_ripe1 (x : Wk) (i ep : Int) : sumW (ripe1 x i ep) = sumW x := by
  unfold ripe1; split
  · exact sum_move ..
  · rfl
theorem rr_ripe1 (x : Wk) (i ep : Int) : (ripe1 x i ep).rack = x.rack ∧ (ripe1 x i ep).read = x.read := by
  unfold ripe1; split
  · obtain ⟨h1, h2, _⟩ := rr_set (holdW (x, bagL x i)) i 0 []; exact ⟨h1, h2⟩
  · exact ⟨rfl, rfl⟩
theorem easy_ripe {x : Wk} (h : Easy x) (ep : Int) : Easy (ripeW (x, ep)) := by
  obtain ⟨a1, b1⟩ := rr_ripe1 x 0 ep
  obtain ⟨a2, b2⟩ := rr_ripe1 (ripe1 x 0 ep) 1 ep
  obtain ⟨a3, b3⟩ := rr_ripe1 (ripe1 (ripe1 x 0 ep) 1 ep) 2 ep
  refine ⟨?_, ?_, ?_⟩
  · show small (ripe1 (ripe1 (ripe1 x 0 ep) 1 ep) 2 ep).rack
    rw [a3, a2, a1]; exact h.rack
  · show small (ripe1 (ripe1 (ripe1 x 0 ep) 1 ep) 2 ep).read
    rw [b3, b2, b1]; exact h.read
  · show sumW (ripe1 (ripe1 (ripe1 x 0 ep) 1 ep) 2 ep) ≤ _
    rw [sum_ripe1, sum_ripe1, sum_ripe1]; exact h.sum
theorem easy_put {c : Cfg} {x : Wk} {b : Int} (h : Easy x) (hs : sumW x < 100000) : Easy (bagPut (c, x, b)).1 := by
  obtain ⟨a1, b1⟩ := rr_put (c, x, b)
  refine ⟨by rw [a1]; exact h.rack, by rw [b1]; exact h.read, ?_⟩
  have := sum_put (c, x, b)
  show sumW (bagPut (c, x, b)).1 ≤ _
  dsimp only at this; omega
/-- The state of BagRoom after some puts. -/
structure RoomInv (c : Cfg) (i : Nat) (x : Wk) : Prop where
  small : i ≤ 20
  rack : x.rack = []
  read : x.read = []
  hold : x.hold = []
  tag : bagT x (idxW x) = tagW x
  len : (bagL x (idxW x)).length = min i c.a.toNat
  sum : sumW x = min i c.a.toNat
def specRoom (c : Cfg) : Nat → Option (St El → LSpec El) := addSpec noSpec 5 fun _ => { σ := Nat × Wk, slots := fun s => [(8, .int .i64 s.1)], res := fun s => [(1, .cells 32 (cdWk.enc s.2))], inv := fun s => RoomInv c s.1 s.2, meas := fun s => 20 - s.1 }
def aRoomL : Cd El (Cfg × Int × Int) := .pair aCfg (.pair aU (.int .u8))
/-- Where the blocks are that have been put. -/
structure WaitI (n i : Nat) (x : Wk) (tags : List Int) : Prop where
  le : i ≤ n
  most : n ≤ 40
  rack : x.rack = []
  read : x.read = []
  len : tags.length = n
  low : 2 ≤ x.e
  pos : ∀ k, 0 ≤ tags.getD k 0
  sum : sumW x ≤ i
  cnt : ∀ b : Int, x.hold.count b + x.l0.count b + x.l1.count b + x.l2.count b = if 0 ≤ b ∧ b < i ∧ tags.getD b.toNat 0 ≠ 0 then 1 else 0
  old : ∀ b ∈ x.hold, tags.getD b.toNat 0 + 2 ≤ x.e
  m0 : x.l0 = [] ∨ x.t0 % 3 = 0
  m1 : x.l1 = [] ∨ x.t1 % 3 = 1
  m2 : x.l2 = [] ∨ x.t2 % 3 = 2
  le0 : x.t0 ≤ x.e + 1
  le1 : x.t1 ≤ x.e + 1
  le2 : x.t2 ≤ x.e + 1
  in0 : ∀ b ∈ x.l0, tags.getD b.toNat 0 = x.t0
  in1 : ∀ b ∈ x.l1, tags.getD b.toNat 0 = x.t1
  in2 : ∀ b ∈ x.l2, tags.getD b.toNat 0 = x.t2
structure WaitInv (n i : Nat) (x : Wk) (tags : List Int) : Prop where
  core : WaitI n i x tags
  high : x.e ≤ 2 + 5 * i
/-- With the list in a cell of what a slot points to. -/
def withList (st : St El) (slot cell : Nat) (f : List Int → LSpec El) : LSpec El := match nth st.slots slot with
  | .ptr r _ => match getR st.res r with
    | .cells _ cs => match nth cs cell with
      | .list t xs => if h : t = 3 then f (h ▸ xs : List (El 3)) else f []
      | _ => f []
    | _ => f []
  | _ => f []
def seenL (n : Nat) (l : List Int) : List Bool := (List.range n).map fun (b : Nat) => l.contains (b : Int)
/-- The state with another epoch. -/
def Wk.with3 (x : Wk) (e : Int) : Wk := { x with e := e }
/-- A cell of what a slot points to. -/
def cellIn (st : St El) (slot cell : Nat) : AVal El := match nth st.slots slot with
  | .ptr r _ => match getR st.res r with
    | .cells _ cs => nth cs cell
    | _ => .top
  | _ => .top
/-- A state of which one cell is known. -/
def onlyAt (n k : Nat) (a : AVal El) : List (AVal El) := match n with
  | 0 => []
  | n + 1 => match k with
    | 0 => a :: onlyAt n 99 a
    | k + 1 => .top :: onlyAt n k a
def specWaits (n : Nat) : Nat → Option (St El → LSpec El) := addSpec (addSpec (addSpec (addSpec noSpec
  9 fun _ => { σ := Nat × Wk × List Int, slots := fun s => [(7, .int .i64 s.2.1.hold.length), (8, .int .i64 s.1)], res := fun s => [(1, .cells 32 (cdWk.enc s.2.1)), (2, .vec 22 s.2.2)], inv := fun s => WaitInv n s.1 s.2.1 s.2.2, meas := fun s => n - s.1 })
  19 fun st => withList st 9 17 fun hd => { σ := Nat, slots := fun k => [(11, .int .i64 k)], res := fun _ => [(1, .cells 32 (onlyAt 33 9 (cellIn st 5 9)))], inv := fun k => k ≤ hd.length, meas := fun k => hd.length - k })
  31 fun st => withList st 5 17 fun hd => { σ := Nat × List Bool, slots := fun s => [(14, .int .i64 s.1)], res := fun s => [(0, .dead), (1, .cells 32 (onlyAt 33 17 (cellIn st 5 17))), (3, .vec 4 s.2)], inv := fun s => s.1 ≤ hd.length ∧ s.2 = seenL n (hd.take s.1), meas := fun s => hd.length - s.1 })
  38 fun _ => { σ := Nat, slots := fun k => [(16, .int .i64 k)], res := fun _ => [(0, .dead), (1, .dead)], inv := fun k => k ≤ n, meas := fun k => n - k }
def aWaitsL : Cd El (Cfg × List Int) := .pair aCfg (.list 5)
end Go.Proofs.Ytggaecdhgbdilaa
