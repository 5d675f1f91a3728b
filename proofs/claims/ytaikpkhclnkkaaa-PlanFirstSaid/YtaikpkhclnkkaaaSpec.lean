/- What the functions of the layer compute, in plain Lean. No condition. -/
import Derived.Test.YtaikpkhclnkkaaaBase
set_option linter.unusedVariables false
namespace Go.Proofs.Ytaikpkhclnkkaaa
open Go Go.Ax

structure Cfg where
  w : Int
  s : Int
  b : Int
  o : Int
  e : Int
  r : Int
  a : Int
  l : Int
def cdCfg : Cd El Cfg := .iso (.pair (.int .i64) (.pair (.int .i64) (.pair (.int .i64) (.pair (.int .i64) (.pair (.int .i64) (.pair (.int .i64) (.pair (.int .i64) (.int .u64))))))))
  (fun x => ⟨x.1, x.2.1, x.2.2.1, x.2.2.2.1, x.2.2.2.2.1, x.2.2.2.2.2.1, x.2.2.2.2.2.2.1, x.2.2.2.2.2.2.2⟩) (fun c => (c.w, c.s, c.b, c.o, c.e, c.r, c.a, c.l)) (fun _ => rfl)
/-- A configuration, as one argument. -/
def aCfg : Cd El Cfg := .agg cdCfg
def least (c : Cfg) : Bool := decide (c.w < 1 ∨ c.s < 1 ∨ c.b < 1 ∨ c.o < 1 ∨ c.e < 1 ∨ c.r < 0 ∨ c.a < 1 ∨ c.l < 1)
def most (c : Cfg) : Bool := decide (8 < c.w ∨ 8 < c.s ∨ 16 < c.b ∨ 4 < c.o ∨ 32 < c.e ∨ 4 < c.r ∨ 8 < c.a ∨ 1048576 < c.l)
def checkV (c : Cfg) : Int := if least c = true then 1 else if most c = true then 2 else 0
end Go.Proofs.Ytaikpkhclnkkaaa
