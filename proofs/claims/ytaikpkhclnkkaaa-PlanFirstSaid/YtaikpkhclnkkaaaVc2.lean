/- What the functions of package plan come to, by the executor; the equations were printed by a program of mine. No condition. -/
import Derived.Test.YtaikpkhclnkkaaaPlan
import Derived.Test.YtaikpkhclnkkaaaVc1
set_option linter.unusedVariables false
set_option linter.unusedSimpArgs false
set_option maxRecDepth 100000
namespace Go.Proofs.Ytaikpkhclnkkaaa
open Go Go.Ax

theorem vc_slabs (K : AVal El → Prop) (x : Cfg) : aexecF cnd cx noΓ noSpec 100 Try.f28 (codeOf Try.f28) (aCfg.enc x) [] (fun y _ => K y) = (
      K (AVal.int IntKind.i64 (IntKind.wrap IntKind.i64 (3 + x.w)))) := by kernel_rfl

theorem vc_entries (K : AVal El → Prop) (x : Cfg) : aexecF cnd cx ΓA noSpec 100 Try.f29 (codeOf Try.f29) (aCfg.enc x) [] (fun y _ => K y) = (
      True ∧
        K
          (AVal.int IntKind.i64
            (IntKind.wrap IntKind.i64
              (slabsV x + x.s)))) := by kernel_rfl

theorem vc_at (K : AVal El → Prop) (x : Cfg) (f i m k : Int) : aexecF cnd cx ΓA noSpec 100 Try.f27 (codeOf Try.f27) (Cd.enc (.pair aCfg (.pair aI (.pair aI (.pair aI aI)))) (x, f, i, m, k)) [] (fun y _ => K y) = (
      cnd (decide (i < 0) == false)
        (cnd (decide (i ≥ m) == false)
          (True ∧
            cnd (checkV x != 0)
              (K (AVal.int IntKind.i64 (-1)))
              (K (AVal.int IntKind.i64 (IntKind.wrap IntKind.i64 (f + IntKind.wrap IntKind.i64 (i * k))))))
          (K (AVal.int IntKind.i64 (-1))))
        (K (AVal.int IntKind.i64 (-1)))) := by kernel_rfl

theorem vc_total (K : AVal El → Prop) (x : Cfg) : aexecF cnd cx ΓA noSpec 100 Try.f14 (codeOf Try.f14) (aCfg.enc x) [] (fun y _ => K y) = (
      True ∧
        cnd (checkV x != 0)
          (K (AVal.int IntKind.i64 0)) (K (AVal.int IntKind.i64 (IntKind.wrap IntKind.i64 (x.s * x.b))))) := by kernel_rfl

theorem vc_new (K : AVal El → Prop) (x : Cfg) : aexecF cnd cx ΓA noSpec 100 Try.f7 (codeOf Try.f7) (aCfg.enc x) [] (fun y _ => K y) = (
      True ∧
        cnd (checkV x != 0)
          (K
            (AVal.tup
              [AVal.agg
                  [AVal.int IntKind.i64 0, AVal.int IntKind.i64 0, AVal.int IntKind.i64 0, AVal.int IntKind.i64 0,
                    AVal.int IntKind.i64 0, AVal.int IntKind.i64 0, AVal.int IntKind.i64 0, AVal.int IntKind.u64 0],
                AVal.int IntKind.i64
                  (checkV x)]))
          (K
            (AVal.tup
              [AVal.agg
                  [AVal.int IntKind.i64 x.w, AVal.int IntKind.i64 x.s, AVal.int IntKind.i64 x.b, AVal.int IntKind.i64 x.o,
                    AVal.int IntKind.i64 x.e, AVal.int IntKind.i64 x.r, AVal.int IntKind.i64 x.a, AVal.int IntKind.u64 x.l],
                AVal.int IntKind.i64 0]))) := by kernel_rfl

theorem vc_blocks (K : AVal El → Prop) (x : Cfg) : aexecF cnd cx ΓB noSpec 100 Try.f26 (codeOf Try.f26) (aCfg.enc x) [] (fun y _ => K y) = (
      True ∧
        K
          (AVal.int IntKind.i64
            (IntKind.wrap IntKind.i64
              (entriesV x +
                IntKind.wrap IntKind.i64 (2 * x.e))))) := by kernel_rfl

theorem vc_size (K : AVal El → Prop) (x : Cfg) : aexecF cnd cx ΓC noSpec 100 Try.f8 (codeOf Try.f8) (aCfg.enc x) [] (fun y _ => K y) = (
      True ∧
        cnd (checkV x != 0)
          (K (AVal.int IntKind.i64 0))
          (True ∧
            True ∧
              K
                (AVal.int IntKind.i64
                  (IntKind.wrap IntKind.i64
                    (blocksV x +
                      IntKind.wrap IntKind.i64
                        (totalV x *
                          IntKind.wrap IntKind.i64 (1 + x.o))))))) := by kernel_rfl

theorem vc_announce (K : AVal El → Prop) (x : Cfg) (i : Int) : aexecF cnd cx ΓC noSpec 100 Try.f10 (codeOf Try.f10) (aCI.enc (x, i)) [] (fun y _ => K y) = (
      True ∧
        K
          (AVal.int IntKind.i64
            (atV x 3 i x.w 1))) := by kernel_rfl

theorem vc_slab (K : AVal El → Prop) (x : Cfg) (i : Int) : aexecF cnd cx ΓC noSpec 100 Try.f11 (codeOf Try.f11) (aCI.enc (x, i)) [] (fun y _ => K y) = (
      True ∧
        True ∧
          K
            (AVal.int IntKind.i64
              (atV x
                (slabsV x) i x.s 1))) := by kernel_rfl

theorem vc_entry (K : AVal El → Prop) (x : Cfg) (i : Int) : aexecF cnd cx ΓC noSpec 100 Try.f12 (codeOf Try.f12) (aCI.enc (x, i)) [] (fun y _ => K y) = (
      True ∧
        True ∧
          K
            (AVal.int IntKind.i64
              (atV x
                (entriesV x) i x.e 2))) := by kernel_rfl

theorem vc_entryLink (K : AVal El → Prop) (x : Cfg) (i : Int) : aexecF cnd cx ΓC noSpec 100 Try.f13 (codeOf Try.f13) (aCI.enc (x, i)) [] (fun y _ => K y) = (
      True ∧
        True ∧
          K
            (AVal.int IntKind.i64
              (atV x
                (IntKind.wrap IntKind.i64
                  (entriesV x + 1))
                i x.e 2))) := by kernel_rfl

theorem vc_blockLink (K : AVal El → Prop) (x : Cfg) (i : Int) : aexecF cnd cx ΓC noSpec 100 Try.f15 (codeOf Try.f15) (aCI.enc (x, i)) [] (fun y _ => K y) = (
      True ∧
        True ∧
          True ∧
            K
              (AVal.int IntKind.i64
                (atV x
                  (blocksV x) i
                  (totalV x)
                  (IntKind.wrap IntKind.i64 (1 + x.o))))) := by kernel_rfl

theorem vc_word (K : AVal El → Prop) (x : Cfg) (i k : Int) : aexecF cnd cx ΓD noSpec 100 Try.f16 (codeOf Try.f16) (Cd.enc (.pair aCfg (.pair aI aI)) (x, i, k)) [] (fun y _ => K y) = (
      True ∧
        cnd
          (decide (blockLinkV x i ≥ 0) ==
            true)
          (cnd (decide (k ≥ 0) == true)
            (cnd (decide (k < x.o))
              (K
                (AVal.int IntKind.i64
                  (IntKind.wrap IntKind.i64
                    (IntKind.wrap IntKind.i64
                        (blockLinkV x i +
                          1) +
                      k))))
              (K (AVal.int IntKind.i64 (-1))))
            (K (AVal.int IntKind.i64 (-1))))
          (K (AVal.int IntKind.i64 (-1)))) := by kernel_rfl

theorem vc_home (K : AVal El → Prop) (x : Cfg) (i : Int) : aexecF cnd cx ΓD noSpec 100 Try.f20 (codeOf Try.f20) (aCI.enc (x, i)) [] (fun y _ => K y) = (
      True ∧
        cnd (decide (blockLinkV x i < 0))
          (K (AVal.int IntKind.i64 (-1)))
          ((x.b = 0 → False) ∧ K (AVal.int IntKind.i64 (IntKind.wrap IntKind.i64 (Int.tdiv i x.b))))) := by kernel_rfl

theorem body_of {fn : Func} (h : fn.body.isSome = true) : fn.body = some (codeOf fn) := by
  unfold codeOf
  cases hb : fn.body with
  | none => rw [hb] at h; cases h
  | some c => rfl
theorem num_ok {Γ : FuncId → Option (GSpec El)} (hΓ : ∀ f g, Γ f = some g → GOk cx f g) {f : FuncId} {fn : Func} (hfn : Try.prog.funcs[f]? = some fn) (hb : fn.body.isSome = true)
    (henter : ∀ args w, (callFunc f args).run Try.prog w = .ok (.enter f args) w) {α : Type} {d : Cd El α} {t : α → Int}
    (h : ∀ x, aexecF cnd cx Γ noSpec 100 fn (codeOf fn) (d.enc x) [] (fun y _ => y = .int .i64 (t x))) : GOk cx f (num d t) :=
  tell_ctr hΓ hfn (body_of hb) henter (n := 100) (fun x _ => by
    have := h x
    have e : (fun (y : AVal El) (R : List (Res El)) => y = AVal.int IntKind.i64 (t x) ∧ matchR R []) = fun y _ => y = AVal.int IntKind.i64 (t x) := by funext y R; simp [matchR]
    show aexecF cnd cx Γ noSpec 100 fn (codeOf fn) (d.enc x) [] (fun (y : AVal El) (R : List (Res El)) => y = AVal.int IntKind.i64 (t x) ∧ matchR R [])
    rw [e]; exact this)

theorem check0 {x : Cfg} (h : 1 ≤ x.w ∧ 1 ≤ x.s ∧ 1 ≤ x.b ∧ 1 ≤ x.o ∧ 1 ≤ x.e ∧ 0 ≤ x.r ∧ 1 ≤ x.a ∧ 1 ≤ x.l) (h' : x.w ≤ 8 ∧ x.s ≤ 8 ∧ x.b ≤ 16 ∧ x.o ≤ 4 ∧ x.e ≤ 32 ∧ x.r ≤ 4 ∧ x.a ≤ 8 ∧ x.l ≤ 1048576) : checkV x = 0 := by
  unfold checkV
  rw [if_neg (by simp only [least, decide_eq_true_eq]; omega), if_neg (by simp only [most, decide_eq_true_eq]; omega)]
theorem check1 {x : Cfg} (h : x.w < 1 ∨ x.s < 1 ∨ x.b < 1 ∨ x.o < 1 ∨ x.e < 1 ∨ x.r < 0 ∨ x.a < 1 ∨ x.l < 1) : checkV x = 1 := by
  unfold checkV
  rw [if_pos (by simp only [least, decide_eq_true_eq]; exact h)]
theorem check2 {x : Cfg} (h : 1 ≤ x.w ∧ 1 ≤ x.s ∧ 1 ≤ x.b ∧ 1 ≤ x.o ∧ 1 ≤ x.e ∧ 0 ≤ x.r ∧ 1 ≤ x.a ∧ 1 ≤ x.l) (h' : 8 < x.w ∨ 8 < x.s ∨ 16 < x.b ∨ 4 < x.o ∨ 32 < x.e ∨ 4 < x.r ∨ 8 < x.a ∨ 1048576 < x.l) : checkV x = 2 := by
  unfold checkV
  rw [if_neg (by simp only [least, decide_eq_true_eq]; omega), if_pos (by simp only [most, decide_eq_true_eq]; exact h')]
set_option maxHeartbeats 2000000 in
theorem rcheck_told (x : Cfg) : aexecF cnd cx noΓ noSpec 100 Try.f17 (codeOf Try.f17) (aCfg.enc x) [] (fun y _ => y = .int .i64 (checkV x)) := by
  have e := vc_rcheck (fun y => y = .int .i64 (checkV x)) x
  rw [e]
  repeat' (refine cnd_intro (fun h => ?_) (fun h => ?_))
  all_goals simp only [beq_false, beq_true, Bool.not_eq_true', Bool.not_eq_false', decide_eq_true_eq, decide_eq_false_iff_not] at *
  all_goals first
    | exact congrArg _ (check0 (by omega) (by omega)).symm
    | exact congrArg _ (check1 (by omega)).symm
    | exact congrArg _ (check2 (by omega) (by omega)).symm
set_option maxHeartbeats 2000000 in
theorem check_told (x : Cfg) : aexecF cnd cx noΓ noSpec 100 Try.f18 (codeOf Try.f18) (aCfg.enc x) [] (fun y _ => y = .int .i64 (checkV x)) := by
  have e := vc_check (fun y => y = .int .i64 (checkV x)) x
  rw [e]
  repeat' (refine cnd_intro (fun h => ?_) (fun h => ?_))
  all_goals simp only [decide_eq_true_eq, decide_eq_false_iff_not] at *
  all_goals first
    | exact congrArg _ (check1 (by omega)).symm
    | exact congrArg _ (check2 (by omega) (by omega)).symm
    | skip
  all_goals
    refine congrArg _ (Eq.symm ?_)
    by_cases hm : 8 < x.w ∨ 8 < x.s ∨ 16 < x.b ∨ 4 < x.o ∨ 32 < x.e ∨ 4 < x.r ∨ 8 < x.a ∨ 1048576 < x.l
    · rw [check2 (by omega) hm]
      by_cases h7 : x.a > 8
      · simp [h7]
      by_cases h6 : x.r > 4
      · simp [h6, h7]
      by_cases h5 : x.e > 32
      · simp [h5, h6, h7]
      by_cases h4 : x.o > 4
      · simp [h4, h5, h6, h7]
      by_cases h3 : x.b > 16
      · simp [h3, h4, h5, h6, h7]
      by_cases h2 : x.s > 8
      · simp [h2, h3, h4, h5, h6, h7]
      by_cases h1 : x.w > 8
      · simp [h1, h2, h3, h4, h5, h6, h7]
      omega
    · rw [check0 (by omega) (by omega)]
      have h1 : ¬ x.a > 8 := by omega
      have h2 : ¬ x.r > 4 := by omega
      have h3 : ¬ x.e > 32 := by omega
      have h4 : ¬ x.o > 4 := by omega
      have h5 : ¬ x.b > 16 := by omega
      have h6 : ¬ x.s > 8 := by omega
      have h7 : ¬ x.w > 8 := by omega
      simp [h1, h2, h3, h4, h5, h6, h7]
theorem ok18 : GOk cx 18 (num aCfg checkV) := num_ok (d := aCfg) (t := checkV) (fn := Try.f18) (Γ := noΓ) noΓ_ok Try.func18 (by kernel_rfl) Try.call18 (fun x => by
  have h := check_told x
  exact h)
theorem ok17 : GOk cx 17 (num aCfg checkV) := num_ok noΓ_ok Try.func17 (by kernel_rfl) Try.call17 rcheck_told
theorem ok28 : GOk cx 28 (num aCfg slabsV) := num_ok noΓ_ok Try.func28 (by kernel_rfl) Try.call28 (fun x => by
  have e := vc_slabs (fun y => y = .int .i64 (slabsV x)) x
  rw [e]; rfl)
theorem ΓA_ok : ∀ f g, ΓA f = some g → GOk cx f g := addΓ_ok (addΓ_ok (addΓ_ok noΓ_ok ok18) ok17) ok28
theorem ok29 : GOk cx 29 (num aCfg entriesV) := num_ok ΓA_ok Try.func29 (by kernel_rfl) Try.call29 (fun x => by
  have e := vc_entries (fun y => y = .int .i64 (entriesV x)) x
  rw [e]; exact ⟨trivial, rfl⟩)
theorem ok27 : GOk cx 27 (num (.pair aCfg (.pair aI (.pair aI (.pair aI aI)))) fun x => atV x.1 x.2.1 x.2.2.1 x.2.2.2.1 x.2.2.2.2) := num_ok ΓA_ok Try.func27 (by kernel_rfl) Try.call27 (fun ⟨x, f, i, m, k⟩ => by
  have e := vc_at (fun y => y = .int .i64 (atV x f i m k)) x f i m k
  rw [e]
  repeat' first | refine cnd_intro (fun h => ?_) (fun h => ?_) | refine And.intro trivial ?_
  all_goals simp only [beq_false, beq_true, Bool.not_eq_true', Bool.not_eq_false', decide_eq_true_eq, decide_eq_false_iff_not, bne_iff_ne, bne_eq_false_iff_eq, ge_iff_le] at *
  all_goals simp only [atV, AVal.int.injEq, true_and]
  all_goals simp_all
  all_goals omega)
theorem ok14 : GOk cx 14 (num aCfg totalV) := num_ok ΓA_ok Try.func14 (by kernel_rfl) Try.call14 (fun x => by
  have e := vc_total (fun y => y = .int .i64 (totalV x)) x
  rw [e]
  refine ⟨trivial, cnd_intro (fun h => ?_) (fun h => ?_)⟩
  · have : ¬ checkV x = 0 := by simpa using h
    simp [totalV, this]
  · have : checkV x = 0 := by simpa using h
    simp [totalV, this])
theorem ok7 : GOk cx 7 (ctr (tell aCfg fun x => (True, .tup [.agg (cdCfg.enc (newV x)), .int .i64 (checkV x)], []))) := tell_ctr ΓA_ok Try.func7 (body_of (by kernel_rfl)) Try.call7 (n := 100) (fun x _ => by
  have e := vc_new (fun y => y = .tup [.agg (cdCfg.enc (newV x)), .int .i64 (checkV x)]) x
  have e1 : (fun (y : AVal El) (R : List (Res El)) => y = .tup [.agg (cdCfg.enc (newV x)), .int .i64 (checkV x)] ∧ matchR R []) = fun y _ => y = .tup [.agg (cdCfg.enc (newV x)), .int .i64 (checkV x)] := by funext y R; simp [matchR]
  show aexecF cnd cx ΓA noSpec 100 Try.f7 (codeOf Try.f7) (aCfg.enc x) [] (fun (y : AVal El) (R : List (Res El)) => y = .tup [.agg (cdCfg.enc (newV x)), .int .i64 (checkV x)] ∧ matchR R [])
  rw [e1, e]
  refine ⟨trivial, cnd_intro (fun h => ?_) (fun h => ?_)⟩
  · have : ¬ checkV x = 0 := by simpa using h
    simp only [newV, this, if_false]; rfl
  · have : checkV x = 0 := by simpa using h
    simp only [newV, this, if_true]; rfl)
theorem ΓB_ok : ∀ f g, ΓB f = some g → GOk cx f g := addΓ_ok (addΓ_ok (addΓ_ok (addΓ_ok ΓA_ok ok29) ok27) ok14) ok7
theorem ok26 : GOk cx 26 (num aCfg blocksV) := num_ok ΓB_ok Try.func26 (by kernel_rfl) Try.call26 (fun x => by
  have e := vc_blocks (fun y => y = .int .i64 (blocksV x)) x
  rw [e]; exact ⟨trivial, rfl⟩)
theorem ΓC_ok : ∀ f g, ΓC f = some g → GOk cx f g := addΓ_ok ΓB_ok ok26
theorem ok8 : GOk cx 8 (num aCfg sizeV) := num_ok ΓC_ok Try.func8 (by kernel_rfl) Try.call8 (fun x => by
  have e := vc_size (fun y => y = .int .i64 (sizeV x)) x
  rw [e]
  refine ⟨trivial, cnd_intro (fun h => ?_) (fun h => ?_)⟩
  · have : ¬ checkV x = 0 := by simpa using h
    simp [sizeV, this]
  · have : checkV x = 0 := by simpa using h
    simp [sizeV, this])
theorem ok10 : GOk cx 10 (num aCI fun x => announceV x.1 x.2) := num_ok ΓC_ok Try.func10 (by kernel_rfl) Try.call10 (fun ⟨x, i⟩ => by
  have e := vc_announce (fun y => y = .int .i64 (announceV x i)) x i
  rw [e]; exact ⟨trivial, rfl⟩)
theorem ok11 : GOk cx 11 (num aCI fun x => slabV x.1 x.2) := num_ok ΓC_ok Try.func11 (by kernel_rfl) Try.call11 (fun ⟨x, i⟩ => by
  have e := vc_slab (fun y => y = .int .i64 (slabV x i)) x i
  rw [e]; exact ⟨trivial, trivial, rfl⟩)
theorem ok12 : GOk cx 12 (num aCI fun x => entryV x.1 x.2) := num_ok ΓC_ok Try.func12 (by kernel_rfl) Try.call12 (fun ⟨x, i⟩ => by
  have e := vc_entry (fun y => y = .int .i64 (entryV x i)) x i
  rw [e]; exact ⟨trivial, trivial, rfl⟩)
theorem ok13 : GOk cx 13 (num aCI fun x => entryLinkV x.1 x.2) := num_ok ΓC_ok Try.func13 (by kernel_rfl) Try.call13 (fun ⟨x, i⟩ => by
  have e := vc_entryLink (fun y => y = .int .i64 (entryLinkV x i)) x i
  rw [e]; exact ⟨trivial, trivial, rfl⟩)
theorem ok15 : GOk cx 15 (num aCI fun x => blockLinkV x.1 x.2) := num_ok ΓC_ok Try.func15 (by kernel_rfl) Try.call15 (fun ⟨x, i⟩ => by
  have e := vc_blockLink (fun y => y = .int .i64 (blockLinkV x i)) x i
  rw [e]; exact ⟨trivial, trivial, trivial, rfl⟩)
theorem ΓD_ok : ∀ f g, ΓD f = some g → GOk cx f g := addΓ_ok (addΓ_ok (addΓ_ok (addΓ_ok (addΓ_ok (addΓ_ok ΓC_ok ok8) ok10) ok11) ok12) ok13) ok15
theorem ok16 : GOk cx 16 (num (.pair aCfg (.pair aI aI)) fun x => wordV x.1 x.2.1 x.2.2) := num_ok ΓD_ok Try.func16 (by kernel_rfl) Try.call16 (fun ⟨x, i, k⟩ => by
  have e := vc_word (fun y => y = .int .i64 (wordV x i k)) x i k
  rw [e]
  repeat' first | refine cnd_intro (fun h => ?_) (fun h => ?_) | refine And.intro trivial ?_
  all_goals simp only [beq_false, beq_true, Bool.not_eq_true', Bool.not_eq_false', decide_eq_true_eq, decide_eq_false_iff_not, ge_iff_le] at *
  · simp only [wordV]; rw [if_pos ⟨by omega, by omega, by omega⟩]
  all_goals (simp only [wordV]; rw [if_neg (by omega)]))
theorem blockLink_ok {x : Cfg} {i : Int} (h : ¬ blockLinkV x i < 0) : checkV x = 0 := by
  unfold blockLinkV atV at h
  split at h
  · omega
  · omega
theorem valid_of {x : Cfg} (h : checkV x = 0) : 1 ≤ x.w ∧ 1 ≤ x.s ∧ 1 ≤ x.b ∧ 1 ≤ x.o ∧ 1 ≤ x.e ∧ 0 ≤ x.r ∧ 1 ≤ x.a ∧ 1 ≤ x.l ∧ x.w ≤ 8 ∧ x.s ≤ 8 ∧ x.b ≤ 16 ∧ x.o ≤ 4 ∧ x.e ≤ 32 ∧ x.r ≤ 4 ∧ x.a ≤ 8 ∧ x.l ≤ 1048576 := by
  unfold checkV at h
  split at h
  · cases h
  · rename_i h1
    split at h
    · cases h
    · rename_i h2
      simp only [least, most, decide_eq_true_eq] at h1 h2
      omega
theorem ok20 : GOk cx 20 (num aCI fun x => homeV x.1 x.2) := num_ok ΓD_ok Try.func20 (by kernel_rfl) Try.call20 (fun ⟨x, i⟩ => by
  have e := vc_home (fun y => y = .int .i64 (homeV x i)) x i
  rw [e]
  refine ⟨trivial, cnd_intro (fun h => ?_) (fun h => ?_)⟩
  · have : blockLinkV x i < 0 := by simpa using h
    simp [homeV, this]
  · have h : ¬ blockLinkV x i < 0 := by simpa using h
    have := valid_of (blockLink_ok h)
    refine ⟨fun hb => ?_, ?_⟩
    · omega
    · simp [homeV, h])
theorem ΓE_ok : ∀ f g, ΓE f = some g → GOk cx f g := addΓ_ok (addΓ_ok ΓD_ok ok16) ok20
end Go.Proofs.Ytaikpkhclnkkaaa
