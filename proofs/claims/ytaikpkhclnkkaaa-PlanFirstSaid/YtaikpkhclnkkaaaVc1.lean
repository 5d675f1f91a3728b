/- What the two tests of a configuration come to, by the executor; printed by a program of mine. No condition. -/
import Derived.Test.YtaikpkhclnkkaaaSpec
set_option linter.unusedVariables false
set_option maxRecDepth 100000
namespace Go.Proofs.Ytaikpkhclnkkaaa
open Go Go.Ax

theorem vc_check (K : AVal El → Prop) (x : Cfg) : aexecF cnd cx noΓ noSpec 100 Try.f18 (codeOf Try.f18) (aCfg.enc x) [] (fun y _ => K y) =
      cnd (decide (x.w < 1)) (K (AVal.int IntKind.i64 1))
        (cnd (decide (x.s < 1)) (K (AVal.int IntKind.i64 1))
          (cnd (decide (x.b < 1)) (K (AVal.int IntKind.i64 1))
            (cnd (decide (x.o < 1)) (K (AVal.int IntKind.i64 1))
              (cnd (decide (x.e < 1)) (K (AVal.int IntKind.i64 1))
                (cnd (decide (x.r < 0)) (K (AVal.int IntKind.i64 1))
                  (cnd (decide (x.a < 1)) (K (AVal.int IntKind.i64 1))
                    (cnd (decide (x.l < 1)) (K (AVal.int IntKind.i64 1))
                      (cnd (decide (x.l > 1048576)) (K (AVal.int IntKind.i64 2))
                        (K
                          (AVal.int IntKind.i64
                            (match decide (x.a > 8) with
                            | true => 2
                            | false =>
                              match decide (x.r > 4) with
                              | true => 2
                              | false =>
                                match decide (x.e > 32) with
                                | true => 2
                                | false =>
                                  match decide (x.o > 4) with
                                  | true => 2
                                  | false =>
                                    match decide (x.b > 16) with
                                    | true => 2
                                    | false =>
                                      match decide (x.s > 8) with
                                      | true => 2
                                      | false =>
                                        match decide (x.w > 8) with
                                        | true => 2
                                        | false => 0))))))))))) := by kernel_rfl

theorem vc_rcheck (K : AVal El → Prop) (x : Cfg) : aexecF cnd cx noΓ noSpec 100 Try.f17 (codeOf Try.f17) (aCfg.enc x) [] (fun y _ => K y) =
      cnd (decide (x.w < 1) == false)
        (cnd (decide (x.s < 1) == false)
          (cnd (decide (x.b < 1) == false)
            (cnd (decide (x.o < 1) == false)
              (cnd (decide (x.e < 1) == false)
                (cnd (decide (x.a < 1) == false)
                  (cnd (decide (x.r < 0) == false)
                    (cnd (decide (x.l < 1)) (K (AVal.int IntKind.i64 1))
                      (cnd (decide (x.w > 8) == false)
                        (cnd (decide (x.s > 8) == false)
                          (cnd (decide (x.b > 16) == false)
                            (cnd (decide (x.o > 4) == false)
                              (cnd (decide (x.e > 32) == false)
                                (cnd (decide (x.a > 8) == false)
                                  (cnd (decide (x.r > 4) == false)
                                    (cnd (decide (x.l > 1048576)) (K (AVal.int IntKind.i64 2)) (K (AVal.int IntKind.i64 0)))
                                    (K (AVal.int IntKind.i64 2)))
                                  (K (AVal.int IntKind.i64 2)))
                                (K (AVal.int IntKind.i64 2)))
                              (K (AVal.int IntKind.i64 2)))
                            (K (AVal.int IntKind.i64 2)))
                          (K (AVal.int IntKind.i64 2)))
                        (K (AVal.int IntKind.i64 2))))
                    (K (AVal.int IntKind.i64 1)))
                  (K (AVal.int IntKind.i64 1)))
                (K (AVal.int IntKind.i64 1)))
              (K (AVal.int IntKind.i64 1)))
            (K (AVal.int IntKind.i64 1)))
          (K (AVal.int IntKind.i64 1)))
        (K (AVal.int IntKind.i64 1)) := by kernel_rfl

end Go.Proofs.Ytaikpkhclnkkaaa
