/- What the functions of package plan compute, in plain Lean, and their contracts. No condition. -/
import Derived.Test.YtaikpkhclnkkaaaSpec
set_option linter.unusedVariables false
namespace Go.Proofs.Ytaikpkhclnkkaaa
open Go Go.Ax

abbrev wr (n : Int) : Int := IntKind.wrap .i64 n
def slabsV (c : Cfg) : Int := wr (3 + c.w)
def entriesV (c : Cfg) : Int := wr (slabsV c + c.s)
def blocksV (c : Cfg) : Int := wr (entriesV c + wr (2 * c.e))
def atV (c : Cfg) (f i m k : Int) : Int := if i < 0 ∨ m ≤ i ∨ checkV c ≠ 0 then -1 else wr (f + wr (i * k))
def totalV (c : Cfg) : Int := if checkV c = 0 then wr (c.s * c.b) else 0
def sizeV (c : Cfg) : Int := if checkV c = 0 then wr (blocksV c + wr (totalV c * wr (1 + c.o))) else 0
def announceV (c : Cfg) (i : Int) : Int := atV c 3 i c.w 1
def slabV (c : Cfg) (i : Int) : Int := atV c (slabsV c) i c.s 1
def entryV (c : Cfg) (i : Int) : Int := atV c (entriesV c) i c.e 2
def entryLinkV (c : Cfg) (i : Int) : Int := atV c (wr (entriesV c + 1)) i c.e 2
def blockLinkV (c : Cfg) (i : Int) : Int := atV c (blocksV c) i (totalV c) (wr (1 + c.o))
def wordV (c : Cfg) (i k : Int) : Int := if 0 ≤ blockLinkV c i ∧ 0 ≤ k ∧ k < c.o then wr (wr (blockLinkV c i + 1) + k) else -1
def homeV (c : Cfg) (i : Int) : Int := if blockLinkV c i < 0 then -1 else wr (i.tdiv c.b)
def zeroCfg : Cfg := ⟨0, 0, 0, 0, 0, 0, 0, 0⟩
def newV (c : Cfg) : Cfg := if checkV c = 0 then c else zeroCfg

/-- A contract whose result is one number. -/
def num {α : Type} (d : Cd El α) (f : α → Int) : GSpec El := ctr (tell d fun x => (True, .int .i64 (f x), []))
abbrev aI : Cd El Int := .int .i64
abbrev aCI : Cd El (Cfg × Int) := .pair aCfg aI
noncomputable def ΓA : FuncId → Option (GSpec El) := addΓ (addΓ (addΓ noΓ 18 (num aCfg checkV)) 17 (num aCfg checkV)) 28 (num aCfg slabsV)
noncomputable def ΓB : FuncId → Option (GSpec El) := addΓ (addΓ (addΓ (addΓ ΓA 29 (num aCfg entriesV)) 27 (num (.pair aCfg (.pair aI (.pair aI (.pair aI aI)))) fun x => atV x.1 x.2.1 x.2.2.1 x.2.2.2.1 x.2.2.2.2)) 14 (num aCfg totalV))
  7 (ctr (tell aCfg fun x => (True, .tup [.agg (cdCfg.enc (newV x)), .int .i64 (checkV x)], [])))
noncomputable def ΓC : FuncId → Option (GSpec El) := addΓ ΓB 26 (num aCfg blocksV)
noncomputable def ΓD : FuncId → Option (GSpec El) := addΓ (addΓ (addΓ (addΓ (addΓ (addΓ ΓC 8 (num aCfg sizeV)) 10 (num aCI fun x => announceV x.1 x.2)) 11 (num aCI fun x => slabV x.1 x.2)) 12 (num aCI fun x => entryV x.1 x.2))
  13 (num aCI fun x => entryLinkV x.1 x.2)) 15 (num aCI fun x => blockLinkV x.1 x.2)
noncomputable def ΓE : FuncId → Option (GSpec El) := addΓ (addΓ ΓD 16 (num (.pair aCfg (.pair aI aI)) fun x => wordV x.1 x.2.1 x.2.2)) 20 (num aCI fun x => homeV x.1 x.2)
end Go.Proofs.Ytaikpkhclnkkaaa
