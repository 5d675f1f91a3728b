/- PlanTells: whatever the configuration and the numbers, the law comes back true; by the executor. No condition. -/
import Derived.Test.YtaikpkhclnkkaaaTells3
import Derived.Test.YtaikpkhclnkkaaaVc4
set_option linter.unusedVariables false
set_option linter.unusedSimpArgs false
set_option maxRecDepth 100000
namespace Go.Proofs.Ytaikpkhclnkkaaa
open Go Go.Ax

theorem vc_awake (K : AVal El → Prop) : aexecF cnd cx ΓE noSpec 100 Try.f6 (codeOf Try.f6) [] [] (fun y _ => K y) = (
  True ∧ True ∧ True ∧ K (AVal.bool true)) := by kernel_rfl
theorem awake_told : aexecF cnd cx ΓE noSpec 100 Try.f6 (codeOf Try.f6) [] [] (fun y _ => y = .bool true) := by
  have e := vc_awake (fun y => y = .bool true)
  rw [e]; exact ⟨trivial, trivial, trivial, rfl⟩
theorem ok6 : GOk cx 6 (ctr (tell .unit fun _ => (True, .bool true, []))) := tell_ctr ΓE_ok Try.func6 (body_of (by kernel_rfl)) Try.call6 (n := 100) (fun x _ => by
  have h := awake_told
  have e1 : (fun (y : AVal El) (R : List (Res El)) => y = AVal.bool true ∧ matchR R []) = fun y _ => y = AVal.bool true := by funext y R; simp [matchR]
  show aexecF cnd cx ΓE noSpec 100 Try.f6 (codeOf Try.f6) [] [] (fun (y : AVal El) (R : List (Res El)) => y = AVal.bool true ∧ matchR R [])
  rw [e1]; exact h)

theorem next_T {i : Nat} {n : Int} (h : (i : Int) < n) (hn : n ≤ 1000) : EqA (AVal.int IntKind.i64 (wr ((i : Int) + 1))) (AVal.int IntKind.i64 ((i + 1 : Nat) : Int)) := next_int h hn
theorem vec_eq {l m : List Spot} (h : l = m) : EqR (Res.vec 43 l) (Res.vec 43 m) := congrArg _ h

set_option maxHeartbeats 2000000 in
theorem all_told (x : Cfg) (hv : checkV x = 0) : aexecF cnd cx noΓ (specAll x) 100 Try.f19 (codeOf Try.f19) (aCfg.enc x) [] (fun y R => rd cdSpots (settleA R y) (fun b => b = allV x)) := by
  have e := vc_all (fun b => b = allV x) x
  rw [e]; clear e
  have Z := sizes_of hv
  have b1 := Z.w
  have b2 := Z.s
  have b3 := Z.e
  have b4 := Z.o
  have b5 := Z.tb
  obtain ⟨T, hT⟩ : ∃ T, T = x.s * x.b := ⟨_, rfl⟩
  rw [← hT] at b5
  have l1 : ∀ i, (all1 x i).length = 3 + i := fun i => by simp [all1, head3, length_row]; omega
  have l2 : ∀ i, (all2 x i).length = 3 + x.w.toNat + i := fun i => by simp only [all2, List.length_append, l1, length_row]
  have l3 : ∀ i, (all3 x i).length = 3 + x.w.toNat + x.s.toNat + 2 * i := fun i => by simp only [all3, List.length_append, l2, length_ent]
  have l4 : ∀ i, (all4 x i).length = 3 + x.w.toNat + x.s.toNat + 2 * x.e.toNat + i * (1 + x.o.toNat) := fun i => by simp only [all4, List.length_append, l3, length_blk]
  have l5 : ∀ i j, (all5 x i j).length = 3 + x.w.toNat + x.s.toNat + 2 * x.e.toNat + i * (1 + x.o.toNat) + 1 + j := fun i j => by simp only [all5, List.length_append, l4, List.length_cons, length_blkW]; omega
  have hw : wr (x.s * x.b) = T := by rw [← hT]; exact wr_in (by omega)
  have one : ∀ (a : Spot), [a].length = 1 := fun _ => rfl
  have two : ∀ (a b : Spot), [a, b].length = 2 := fun _ _ => rfl
  refine ⟨⟨0, by omega, ⟨trivial, rfl, trivial⟩, ⟨rfl, rfl, trivial⟩, trivial⟩, ?_⟩
  intro s hs0
  refine cnd_intro (fun h => ?_) (fun h => ?_)
  · have h := natlt h
    refine ⟨by rw [l1, one]; omega, s + 1, by omega, by omega, ⟨trivial, next_T h (by omega), trivial⟩, ⟨rfl, vec_eq ?_, trivial⟩, trivial⟩
    simp only [all1, row_succ, List.append_assoc]; rfl
  have h := natge h
  obtain rfl : s = x.w.toNat := by omega
  clear h hs0
  refine ⟨⟨0, by omega, ⟨trivial, rfl, trivial⟩, ⟨rfl, vec_eq (by simp [all2, row]), trivial⟩, trivial⟩, ?_⟩
  intro s hs0
  refine cnd_intro (fun h => ?_) (fun h => ?_)
  · have h := natlt h
    refine ⟨by rw [l2, one]; omega, s + 1, by omega, by omega, ⟨trivial, next_T h (by omega), trivial⟩, ⟨rfl, vec_eq ?_, trivial⟩, trivial⟩
    simp only [all2, row_succ, List.append_assoc]; rfl
  have h := natge h
  obtain rfl : s = x.s.toNat := by omega
  clear h hs0
  refine ⟨⟨0, by omega, ⟨trivial, rfl, trivial⟩, ⟨rfl, vec_eq (by simp [all3, ent]), trivial⟩, trivial⟩, ?_⟩
  intro s hs0
  refine cnd_intro (fun h => ?_) (fun h => ?_)
  · have h := natlt h
    refine ⟨by rw [l3, two]; omega, s + 1, by omega, by omega, ⟨trivial, next_T h (by omega), trivial⟩, ⟨rfl, vec_eq ?_, trivial⟩, trivial⟩
    simp only [all3, ent_succ, List.append_assoc]; rfl
  have h := natge h
  obtain rfl : s = x.e.toNat := by omega
  clear h hs0
  refine ⟨⟨0, by omega, ⟨trivial, rfl, trivial⟩, ⟨rfl, vec_eq (by simp [all4, blk]), trivial⟩, trivial⟩, ?_⟩
  intro s hs0
  have hlen : s * (1 + x.o.toNat) ≤ 128 * 5 := Nat.mul_le_mul (by omega) (by omega)
  rw [show IntKind.wrap IntKind.i64 (x.s * x.b) = T from hw]
  refine cnd_intro (fun h => ?_) (fun h => ?_)
  · have h := natlt h
    refine ⟨by rw [l4, one]; omega, ⟨0, by omega, ⟨trivial, rfl, trivial⟩, ⟨rfl, rfl, vec_eq (by simp [all5, blkW, sp]), trivial⟩, trivial⟩, ?_⟩
    intro k hk0
    refine cnd_intro (fun h' => ?_) (fun h' => ?_)
    · have h' := natlt h'
      refine ⟨by rw [l5, one]; omega, k + 1, by omega, by omega, ⟨trivial, next_T h' (by omega), trivial⟩, ⟨rfl, rfl, vec_eq ?_, trivial⟩, trivial⟩
      simp only [all5, blkW_succ, List.append_assoc, List.cons_append]; rfl
    · have h' := natge h'
      obtain rfl : k = x.o.toNat := by omega
      refine ⟨s + 1, by omega, by omega, ⟨trivial, next_T h (by omega), trivial⟩, ⟨rfl, vec_eq ?_, trivial⟩, trivial⟩
      simp only [all5, all4, blk_succ, List.append_assoc]
  · have h := natge h
    have : s = (x.s * x.b).toNat := by omega
    subst this
    rfl
theorem ok19 : GOk cx 19 (plain aCfg cdSpots (fun x => checkV x = 0) allV) := plain_ok noΓ_ok Try.func19 (body_of (by kernel_rfl)) Try.call19 (fun x hx => ⟨specAll x, 100, all_told x hx⟩)
theorem ΓH_ok : ∀ f g, ΓH f = some g → GOk cx f g := addΓ_ok (addΓ_ok ΓE_ok ok19) ok6

theorem num_ok' {Γ : FuncId → Option (GSpec El)} (hΓ : ∀ f g, Γ f = some g → GOk cx f g) {f : FuncId} {fn : Func} (hfn : Try.prog.funcs[f]? = some fn) (hb : fn.body.isSome = true)
    (henter : ∀ args w, (callFunc f args).run Try.prog w = .ok (.enter f args) w) {α : Type} {d : Cd El α} {t : α → Int} {spec : α → Nat → Option (St El → LSpec El)}
    (h : ∀ x, aexecF cnd cx Γ (spec x) 100 fn (codeOf fn) (d.enc x) [] (fun y _ => y = .int .i64 (t x))) : GOk cx f (num d t) :=
  tell_ctr' hΓ hfn (body_of hb) henter (fun x _ => ⟨spec x, 100, by
    have := h x
    have e : (fun (y : AVal El) (R : List (Res El)) => y = AVal.int IntKind.i64 (t x) ∧ matchR R []) = fun y _ => y = AVal.int IntKind.i64 (t x) := by funext y R; simp [matchR]
    show aexecF cnd cx Γ (spec x) 100 fn (codeOf fn) (d.enc x) [] (fun (y : AVal El) (R : List (Res El)) => y = AVal.int IntKind.i64 (t x) ∧ matchR R [])
    rw [e]; exact this⟩)

theorem homeF_succ (b i : Int) (n j : Nat) : homeF b i (n + 1) j = if i < wr (wr ((j : Int) + 1) * b) then (j : Int) else homeF b i n (j + 1) := rfl
theorem rhome_told (x : Cfg) (i : Int) : aexecF cnd cx ΓH (specHome x i) 100 Try.f21 (codeOf Try.f21) (aCI.enc (x, i)) [] (fun y _ => y = .int .i64 (homeR x i)) := by
  have e := vc_rhome (fun y => y = .int .i64 (homeR x i)) x i
  rw [e]; clear e
  refine ⟨trivial, cnd_intro (fun h => ?_) (fun h => ?_)⟩
  · have hv : checkV x = 0 := by simpa using h
    have Z := sizes_of hv
    have b2 := Z.s
    refine cnd_intro (fun h => ?_) (fun h => ?_)
    · have h := of_decide_eq_true h
      rw [homeR, if_pos (.inr h)]
    · have h0 := of_decide_eq_false h
      have e : homeR x i = homeF x.b i x.s.toNat 0 := by rw [homeR, if_neg (by omega)]
      rw [e]
      refine ⟨⟨0, ⟨by omega, rfl⟩, ⟨rfl, trivial⟩, ⟨rfl, trivial⟩, trivial⟩, ?_⟩
      rintro s ⟨hs0, hs1⟩
      refine cnd_intro (fun h => ?_) (fun h => ?_)
      · have h := natlt h
        obtain ⟨m, hm⟩ : ∃ m, x.s.toNat - s = m + 1 := ⟨x.s.toNat - s - 1, by omega⟩
        rw [hm, homeF_succ] at hs1
        refine cnd_intro (fun h' => ?_) (fun h' => ?_)
        · have h' := of_decide_eq_true h'
          rw [if_pos h'] at hs1
          rw [hs1]
        · have h' := of_decide_eq_false h'
          rw [if_neg h'] at hs1
          refine ⟨s + 1, ⟨by omega, ?_⟩, by omega, ⟨next_T h (by omega), trivial⟩, ⟨rfl, trivial⟩, trivial⟩
          rw [hs1, show x.s.toNat - (s + 1) = m from by omega]
      · have h := natge h
        have : x.s.toNat - s = 0 := by omega
        rw [this] at hs1
        rw [hs1]; rfl
  · have hv : ¬ checkV x = 0 := by simpa using h
    rw [homeR, if_pos (.inl hv)]
theorem ok21 : GOk cx 21 (num aCI fun x => homeR x.1 x.2) := num_ok' (spec := fun x => specHome x.1 x.2) ΓH_ok Try.func21 (by kernel_rfl) Try.call21 (fun ⟨x, i⟩ => rhome_told x i)

theorem ref_at_told (x : Cfg) (s : Spot) : aexecF cnd cx ΓH (specAt x s) 100 Try.f22 (codeOf Try.f22) (Cd.enc (.pair aCfg cdS) (x, s)) [] (fun y _ => y = .int .i64 (atR x s)) := by
  have e := vc_ref_at (fun y => y = .int .i64 (atR x s)) x s
  rw [e]; clear e
  refine ⟨trivial, cnd_intro (fun h => ?_) (fun h => ?_)⟩
  · have hv : ¬ checkV x = 0 := by simpa using h
    rw [at_bad hv]
  have hv : checkV x = 0 := by simpa using h
  have Z := sizes_of hv
  have hl := length_allV Z
  have hsz := Z.size
  have b1 := Z.w
  have b2 := Z.s
  have b3 := Z.e
  have b5 := Z.tb
  have b6 := Z.pb
  have e : atR x s = findS (allV x) s 0 := by rw [atR, if_pos hv]
  rw [e]
  refine ⟨hv, ⟨0, ⟨Nat.zero_le _, rfl⟩, ⟨rfl, trivial⟩, ⟨rfl, rfl, trivial⟩, trivial⟩, ?_⟩
  rintro k ⟨hk0, hk1⟩
  refine cnd_intro (fun h => ?_) (fun h => ?_)
  · have h := natlt h
    have hlt : k < (allV x).length := by omega
    rw [List.drop_eq_getElem_cons hlt] at hk1
    have eg : (allV x).getD (Int.toNat (k : Int)) (K.dflt (tab 43)) = (allV x)[k] := by rw [Int.toNat_natCast, List.getD_eq_getElem?_getD, List.getElem?_eq_getElem hlt]; rfl
    refine ⟨⟨by omega, by omega⟩, ?_⟩
    rw [eg]
    unfold findS at hk1
    refine cnd_intro (fun h' => ?_) (fun h' => ?_)
    · rw [h'] at hk1
      exact congrArg _ hk1.symm
    · rw [h'] at hk1
      exact ⟨k + 1, ⟨by omega, hk1⟩, by omega, ⟨next_T h (by omega), trivial⟩, ⟨rfl, rfl, trivial⟩, trivial⟩
  · have h := of_decide_eq_false h
    rw [List.drop_eq_nil_of_le (by omega)] at hk1
    rw [hk1]; rfl
theorem ok22 : GOk cx 22 (num (.pair aCfg cdS) fun x => atR x.1 x.2) := num_ok' (spec := fun x => specAt x.1 x.2) ΓH_ok Try.func22 (by kernel_rfl) Try.call22 (fun ⟨x, s⟩ => ref_at_told x s)
theorem ΓI_ok : ∀ f g, ΓI f = some g → GOk cx f g := addΓ_ok (addΓ_ok ΓH_ok ok22) ok21

theorem getD0 (a b c d e f : Int) : List.getD [a, b, c, d, e, f] 0 0 = a := rfl
theorem getD1 (a b c d e f : Int) : List.getD [a, b, c, d, e, f] 1 0 = b := rfl
theorem getD2 (a b c d e f : Int) : List.getD [a, b, c, d, e, f] 2 0 = c := rfl
theorem getD3 (a b c d e f : Int) : List.getD [a, b, c, d, e, f] 3 0 = d := rfl
theorem getD4 (a b c d e f : Int) : List.getD [a, b, c, d, e, f] 4 0 = e := rfl
theorem getD5 (a b c d e f : Int) : List.getD [a, b, c, d, e, f] 5 0 = f := rfl
theorem wr1 : IntKind.wrap IntKind.i64 (0 + 1) = 1 := by decide
theorem wr2 : IntKind.wrap IntKind.i64 (1 + 1) = 2 := by decide
theorem wr3 : IntKind.wrap IntKind.i64 (2 + 1) = 3 := by decide
theorem wr4 : IntKind.wrap IntKind.i64 (3 + 1) = 4 := by decide
theorem wr5 : IntKind.wrap IntKind.i64 (4 + 1) = 5 := by decide
theorem wr6 : IntKind.wrap IntKind.i64 (5 + 1) = 6 := by decide
theorem bne_self_int (n : Int) : (n != n) = false := by simp
theorem cnd_false (A B : Prop) : cnd false A B = B := rfl
theorem cnd_true (A B : Prop) : cnd true A B = A := rfl
set_option maxHeartbeats 4000000 in
theorem tells_told (x : Cfg) (a b : Int) : aexecF cnd cx ΓI noSpec 300 Try.f4 (codeOf Try.f4) (Cd.enc (.pair aCfg (.pair aI aI)) (x, a, b)) [] (fun y _ => y = .bool true) := by
  have e := vc_tells (fun y => y = .bool true) x a b
  rw [e]; clear e
  have l6 : ∀ a b c d e f : Int, [a, b, c, d, e, f].length = 6 := fun _ _ _ _ _ _ => rfl
  simp only [wr1, wr2, wr3, wr4, wr5, wr6, getD0, getD1, getD2, getD3, getD4, getD5, l6, home_eq, at_announce, at_slab, at_entry, at_entryLink, at_blockLink, at_word, bne_self_int, cnd_false, cnd_true, beq_self_eq_true, true_and, and_true]
  by_cases hv : checkV x = 0
  · have Z := sizes_of hv
    have hl := length_allV Z
    have ht : totalV x = IntKind.wrap IntKind.i64 (x.s * x.b) := by unfold totalV; rw [if_pos hv]
    have e1 : (checkV x != 0) = false := by simp [hv]
    have e2 : (checkV x == 0) = true := by simp [hv]
    have e3 : (sizeV x != ((allV x).length : Int)) = false := by rw [hl]; simp
    have e4 : (totalV x != IntKind.wrap IntKind.i64 (x.s * x.b)) = false := by rw [ht]; simp
    have e5 : ((0 : Int) != 0) = false := by decide
    have e6 : ((0 : Int) == 0) = true := by decide
    simp only [e3, e4, e5, e6, hv, cnd_false, cnd_true, beq_true, beq_false, Bool.not_false, true_and]
    omega
  · have e1 : (checkV x != 0) = true := by simp [hv]
    have e2 : (checkV x == 0) = false := by simp [hv]
    have hn : newV x = zeroCfg := by unfold newV; rw [if_neg hv]
    have hs : sizeV x = 0 := by unfold sizeV; rw [if_neg hv]
    have ht : totalV x = 0 := by unfold totalV; rw [if_neg hv]
    have e3 : ((0 : Int) != 0) = false := by decide
    have e4 : ((0 : Int) == 0) = true := by decide
    rw [hn]
    simp only [zeroCfg, e1, e2, hs, ht, e3, e4, cnd_false, cnd_true, beq_true, beq_false, Bool.not_false, Bool.and_true, Bool.not_true]
    omega
end Go.Proofs.Ytaikpkhclnkkaaa
