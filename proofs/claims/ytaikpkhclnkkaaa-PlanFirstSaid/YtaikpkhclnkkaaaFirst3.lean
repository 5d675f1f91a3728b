/- PlanFirst: whatever the configuration, the law comes back true; by the executor. No condition. -/
import Derived.Test.YtaikpkhclnkkaaaFirst2
import Derived.Test.YtaikpkhclnkkaaaVc5
import Derived.Test.YtaikpkhclnkkaaaTells4
set_option linter.unusedVariables false
set_option linter.unusedSimpArgs false
set_option maxRecDepth 100000
namespace Go.Proofs.Ytaikpkhclnkkaaa
open Go Go.Ax

theorem one_res {Γ : FuncId → Option (GSpec El)} {fn : Func} {n : Nat} {args : List (AVal El)} {v : AVal El} {spec : Nat → Option (St El → LSpec El)} (h : aexecF cnd cx Γ spec n fn (codeOf fn) args [] (fun y _ => y = v)) :
    aexecF cnd cx Γ spec n fn (codeOf fn) args [] (fun y R => y = v ∧ matchR R []) := by
  have e1 : (fun (y : AVal El) (R : List (Res El)) => y = v ∧ matchR R []) = fun y _ => y = v := by funext y R; simp [matchR]
  rw [e1]; exact h
theorem ok30 : GOk cx 30 (ctr (tell (.pair aI aU) fun x => (x = (0, 0), .int .u64 1, []))) := tell_ctr noΓ_ok Try.func30 (body_of (by kernel_rfl)) Try.call30 (n := 100) (spec := noSpec) (fun ⟨a, b⟩ hx => by
  have hx : (a, b) = ((0 : Int), (0 : Int)) := hx
  cases hx
  refine one_res ?_
  have e := vc_head (fun y => y = .int .u64 1) 0 0
  rw [e]; exact ⟨by decide, congrArg _ (by decide)⟩)
theorem ok31 : GOk cx 31 (ctr (tell (.pair aU (.pair aI aI)) fun x => (x = (1, -1, 0), .int .u64 1048576, []))) := tell_ctr noΓ_ok Try.func31 (body_of (by kernel_rfl)) Try.call31 (n := 100) (spec := noSpec) (fun ⟨a, b, d⟩ hx => by
  have hx : (a, b, d) = ((1 : Int), (-1 : Int), (0 : Int)) := hx
  cases hx
  refine one_res ?_
  have e := vc_pentry (fun y => y = .int .u64 1048576) 1 (-1) 0
  rw [e]; exact ⟨by decide, by decide, by decide, by decide, congrArg _ (by decide)⟩)
theorem ok33 : GOk cx 33 (inl cx noΓ 100 Try.f33 (codeOf Try.f33)) := inl_ok noΓ_ok Try.func33 (body_of (by kernel_rfl)) Try.call33 100
theorem ok34 : GOk cx 34 (inl cx noΓ 100 Try.f34 (codeOf Try.f34)) := inl_ok noΓ_ok Try.func34 (body_of (by kernel_rfl)) Try.call34 100
theorem ΓL_ok : ∀ f g, ΓL f = some g → GOk cx f g := addΓ_ok (addΓ_ok noΓ_ok ok33) ok34
theorem ok32 : GOk cx 32 (ctr (tell (.pair aU (.pair aI aI)) fun x => (x = (1, -1, 0), .int .u64 1048576, []))) := tell_ctr ΓL_ok Try.func32 (body_of (by kernel_rfl)) Try.call32 (n := 100) (spec := noSpec) (fun ⟨a, b, d⟩ hx => by
  have hx : (a, b, d) = ((1 : Int), (-1 : Int), (0 : Int)) := hx
  cases hx
  refine one_res ?_
  have e := vc_eref (fun y => y = .int .u64 1048576)
  rw [e]; exact ⟨by decide, by decide, by decide, rfl⟩)
theorem ΓP_ok : ∀ f g, ΓP f = some g → GOk cx f g := addΓ_ok (addΓ_ok (addΓ_ok ΓH_ok ok30) ok31) ok32

theorem same_told (a b : List Int) (h : a.length ≤ 1000) : aexecF cnd cx noΓ (specSame a b) 100 Try.f24 (codeOf Try.f24) (Cd.enc (.pair cdW cdW) (a, b)) [] (fun y R => rd cdB (settleA R y) (fun q => q = sameS a b)) := by
  have e := vc_same (fun q => q = sameS a b) a b
  rw [e]; clear e
  have diff : ∀ (a b : List Int), a.length ≠ b.length → sameS a b = false := by
    intro a
    induction a with
    | nil => intro b hb; cases b with
      | nil => exact absurd rfl hb
      | cons y b => rfl
    | cons x a ih => intro b hb; cases b with
      | nil => rfl
      | cons y b => simp [sameS, ih b (by simpa using hb)]
  refine cnd_intro (fun hl => ?_) (fun hl => ?_)
  · have hl : a.length ≠ b.length := by
      intro h; rw [h] at hl; simp at hl
    exact (diff a b hl).symm
  · have hl : a.length = b.length := by
      have : (a.length : Int) = b.length := by simpa using hl
      omega
    refine ⟨⟨0, ⟨by omega, rfl⟩, ⟨rfl, trivial⟩, trivial, trivial⟩, ?_⟩
    rintro s ⟨hs0, hs1⟩
    refine cnd_intro (fun h => ?_) (fun h => ?_)
    · have h := natlt h
      have ha : s < a.length := by omega
      have hb : s < b.length := by omega
      refine ⟨⟨by omega, by omega⟩, ⟨by omega, by omega⟩, ?_⟩
      rw [List.drop_eq_getElem_cons ha, List.drop_eq_getElem_cons hb] at hs1
      have ea : List.getD a (Int.toNat (s : Int)) 0 = a[s] := by rw [Int.toNat_natCast, List.getD_eq_getElem?_getD, List.getElem?_eq_getElem ha]; rfl
      have eb : List.getD b (Int.toNat (s : Int)) 0 = b[s] := by rw [Int.toNat_natCast, List.getD_eq_getElem?_getD, List.getElem?_eq_getElem hb]; rfl
      rw [ea, eb]
      refine cnd_intro (fun hc => ?_) (fun hc => ?_)
      · have hc : a[s] ≠ b[s] := by simpa using hc
        rw [hs1]; simp [sameS, hc]
      · have hc : a[s] = b[s] := by simpa using hc
        refine ⟨s + 1, ⟨by omega, ?_⟩, by omega, ⟨next_T h (by omega), trivial⟩, trivial, trivial⟩
        rw [hs1]; simp [sameS, hc]
    · have h := of_decide_eq_false h
      rw [List.drop_eq_nil_of_le (by omega), List.drop_eq_nil_of_le (by omega)] at hs1
      rw [hs1]; rfl
theorem ok24 : GOk cx 24 (plain (.pair cdW cdW) cdB (fun x => x.1.length ≤ 1000) fun x => sameS x.1 x.2) := plain_ok noΓ_ok Try.func24 (body_of (by kernel_rfl)) Try.call24 (fun ⟨a, b⟩ h => ⟨specSame a b, 100, same_told a b h⟩)

set_option maxHeartbeats 2000000 in
theorem first_told (x : Cfg) : aexecF cnd cx ΓP (specFirst x) 100 Try.f23 (codeOf Try.f23) (aCfg.enc x) [] (fun y R => rdV 22 R y (fun b => b = firstV x)) := by
  have e := vc_first (fun b => b = firstV x) x
  refine Eq.mpr e ?_; clear e
  refine ⟨trivial, cnd_intro (fun h => ?_) (fun h => ?_)⟩
  · have hv : ¬ checkV x = 0 := by simpa using h
    unfold firstV; rw [if_neg hv]
  have hv : checkV x = 0 := by simpa using h
  have Z := sizes_of hv
  have hs := Z.size
  have b1 := Z.w
  have b2 := Z.s
  have b3 := Z.e
  have b6 := Z.pb
  have b5 := Z.tb
  rw [newV_eq hv]
  refine ⟨trivial, ⟨by omega, rfl, by omega, by omega⟩, rfl, by simp only [List.length_replicate]; omega, by simp only [List.length_replicate]; omega, by simp only [List.length_set, List.length_replicate]; omega,
    by simp only [List.length_set, List.length_replicate]; omega, ⟨0, by omega, ⟨rfl, trivial⟩, ⟨rfl, rfl, rfl, trivial⟩, trivial⟩, ?_⟩
  intro s hs0
  have hl := length_firstL Z s hs0
  refine cnd_intro (fun h => ?_) (fun h => ?_)
  · have h := natlt h
    have he := Z.entry (i := s) ⟨by omega, h⟩
    have hk := Z.entryLink (i := s) ⟨by omega, h⟩
    have hw : IntKind.wrap IntKind.i64 ((s : Int) + 1) = (s : Int) + 1 := wr_in (by omega)
    have hw2 : IntKind.wrap IntKind.u64 (IntKind.wrap IntKind.i64 ((s : Int) + 2)) = (s : Int) + 2 := by
      rw [show IntKind.wrap IntKind.i64 ((s : Int) + 2) = (s : Int) + 2 from wr_in (by omega)]
      exact IntWalk.u64_in _ (by omega)
    refine ⟨trivial, rfl, ⟨by omega, by omega⟩, by omega, ?_⟩
    rw [hw2]
    refine cnd_intro (fun h' => ?_) (fun h' => ?_)
    · have h' := of_decide_eq_true h'
      rw [hw] at h'
      refine ⟨trivial, by rw [List.length_set]; omega, by rw [List.length_set]; omega, s + 1, by omega, by omega, ⟨next_T h (by omega), trivial⟩, ⟨rfl, rfl, congrArg _ ?_, trivial⟩, trivial⟩
      show _ = stepF x (firstL x s) s
      unfold stepF; rw [if_pos h']
    · have h' := of_decide_eq_false h'
      rw [hw] at h'
      refine ⟨s + 1, by omega, by omega, ⟨next_T h (by omega), trivial⟩, ⟨rfl, rfl, congrArg _ ?_, trivial⟩, trivial⟩
      show _ = stepF x (firstL x s) s
      unfold stepF; rw [if_neg h']
  · have h := natge h
    obtain rfl : s = x.e.toNat := by omega
    unfold firstV; rw [if_pos hv]
theorem ok23 : GOk cx 23 (freshV aCfg 22 (fun _ => True) firstV) := freshV_ok ΓP_ok Try.func23 (body_of (by kernel_rfl)) Try.call23 (fun x _ => ⟨specFirst x, 100, first_told x⟩)

theorem vecw_eq {l m : List Int} (h : l = m) : EqR (Res.vec 22 l) (Res.vec 22 m) := congrArg _ h
/-- One round of the reference's loop. -/
theorem ref_round {x : Cfg} {s : Nat} {v : Int} (hlt : s < (allV x).length) (hn : (allV x).length ≤ 1000) (hv : v = wordR x (allV x)[s]) :
    ((List.length (List.map (wordR x) (List.take s (allV x))) + List.length [v]) * (8 : Nat) ≤ (140737488355328 : Nat) ∧ List.length (List.map (wordR x) (List.take s (allV x))) + List.length [v] ≤ (140737488355328 : Nat)) ∧
    ∃ (s' : Nat), s' ≤ List.length (allV x) ∧ List.length (allV x) - s' < List.length (allV x) - s ∧ (True ∧ EqA (AVal.int IntKind.i64 (IntKind.wrap IntKind.i64 ((s : Int) + (1 : Int)))) (AVal.int IntKind.i64 (s' : Int)) ∧ True) ∧
      (EqR (Res.cells (24 : Nat) [AVal.int IntKind.i64 x.w, AVal.int IntKind.i64 x.s, AVal.int IntKind.i64 x.b, AVal.int IntKind.i64 x.o, AVal.int IntKind.i64 x.e, AVal.int IntKind.i64 x.r, AVal.int IntKind.i64 x.a, AVal.int IntKind.u64 x.l])
        (Res.cells (24 : Nat) [AVal.int IntKind.i64 x.w, AVal.int IntKind.i64 x.s, AVal.int IntKind.i64 x.b, AVal.int IntKind.i64 x.o, AVal.int IntKind.i64 x.e, AVal.int IntKind.i64 x.r, AVal.int IntKind.i64 x.a, AVal.int IntKind.u64 x.l]) ∧
      EqR (Res.vec (22 : Nat) (List.map (wordR x) (List.take s (allV x)) ++ [v])) (Res.vec (22 : Nat) (List.map (wordR x) (List.take s' (allV x)))) ∧ True) ∧ True := by
  have l1 : [v].length = 1 := rfl
  refine ⟨by simp only [List.length_map, List.length_take, l1]; omega, s + 1, by omega, by omega, ⟨trivial, next_T (n := 1000) (by omega) (by omega), trivial⟩, ⟨rfl, vecw_eq ?_, trivial⟩, trivial⟩
  rw [List.take_add_one, List.getElem?_eq_getElem hlt, List.map_append, hv]
  rfl

theorem match_z (t : Bool) (a b : Int) : selZ t a b = if t = true then a else b := by cases t <;> rfl
set_option maxHeartbeats 8000000 in
theorem rfirst_told (x : Cfg) : aexecF cnd cx ΓP (specRef x) 100 Try.f25 (codeOf Try.f25) (aCfg.enc x) [] (fun y R => rd cdW (settleA R y) (fun b => b = firstR x)) := by
  have e := vc_rfirst (fun b => b = firstR x) x
  rw [e]; clear e
  refine ⟨trivial, cnd_intro (fun h => ?_) (fun h => ?_)⟩
  · have hv : ¬ checkV x = 0 := by simpa using h
    unfold firstR; rw [if_neg hv]
  have hv : checkV x = 0 := by simpa using h
  clear h
  have Z := sizes_of hv
  have hs := Z.size
  have b1 := Z.w
  have b2 := Z.s
  have b3 := Z.e
  have b6 := Z.pb
  have b5 := Z.tb
  have hl := length_allV Z
  have hn : (allV x).length ≤ 1000 := by omega
  refine ⟨hv, ⟨0, by omega, ⟨trivial, rfl, trivial⟩, ⟨rfl, rfl, trivial⟩, trivial⟩, ?_⟩
  intro s hs0
  refine cnd_intro (fun h => ?_) (fun h => ?_)
  · have h := natlt h
    have hlt : s < (allV x).length := by omega
    have hb : (0 : Int) ≤ (s : Int) ∧ (s : Int) < ((allV x).length : Int) := ⟨by omega, by omega⟩
    have eg : List.getD (allV x) (Int.toNat (s : Int)) (K.dflt (tab 43)) = (allV x)[s] := by rw [Int.toNat_natCast, List.getD_eq_getElem?_getD, List.getElem?_eq_getElem hlt]; rfl
    have hm := mem_all4 Z (List.getElem_mem hlt)
    have hw : IntKind.wrap IntKind.i64 (x.e - 1) = x.e - 1 := wr_in (by omega)
    have hround := fun v => ref_round (x := x) (s := s) (v := v) hlt hn
    rw [eg, hw]
    generalize (allV x)[s] = p at hm hround ⊢
    repeat' first | refine cnd_intro (fun h => ?_) (fun h => ?_) | refine And.intro hb ?_ | refine And.intro rfl ?_ | refine hround _ ?_
    all_goals simp only [match_z, beq_true, beq_false, beq_iff_eq, beq_eq_false_iff_ne, decide_eq_true_eq, decide_eq_false_iff_not, ne_eq] at *
    all_goals
      have hu : p.k = 4 → IntKind.wrap IntKind.u64 (IntKind.wrap IntKind.u64 p.a + 2) = p.a + 2 := fun h4 => by
        have := hm h4
        rw [show IntKind.wrap IntKind.u64 p.a = p.a from IntWalk.u64_in _ (by omega)]
        exact IntWalk.u64_in _ (by omega)
      unfold wordR
      first | (rw [hu (by assumption)]; rw [if_pos (by omega)]) | skip
    all_goals (repeat' split)
    all_goals first | omega | contradiction
  · have h := natge h
    have : List.take s (allV x) = allV x := List.take_of_length_le (by omega)
    rw [this]
    unfold firstR; rw [if_pos hv]
theorem ok25 : GOk cx 25 (plain aCfg cdW (fun _ => True) firstR) := plain_ok ΓP_ok Try.func25 (body_of (by kernel_rfl)) Try.call25 (fun x _ => ⟨specRef x, 100, rfirst_told x⟩)
theorem ΓQ_ok : ∀ f g, ΓQ f = some g → GOk cx f g := addΓ_ok (addΓ_ok (addΓ_ok ΓP_ok ok23) ok24) ok25

theorem law_told (x : Cfg) : aexecF cnd cx ΓQ (specF x) 100 Try.f5 (codeOf Try.f5) (aCfg.enc x) [] (fun y _ => y = .bool true) := by
  have e := vc_law (fun y => y = .bool true) x
  rw [e]; clear e
  have hn := length_firstV x
  have hsame : sameS (firstV x) (firstR x) = true := by rw [← first_eq]; exact same_self _
  rw [hsame]
  refine ⟨trivial, trivial, trivial, hn, ?_⟩
  refine cnd_intro (fun h => by cases h) (fun _ => ?_)
  refine ⟨⟨0, by omega, ⟨rfl, trivial⟩, ⟨rfl, rfl, trivial⟩, trivial⟩, ?_⟩
  intro s hs0
  have hlen : (List.replicate s (77 : Int) ++ List.drop s (firstV x)).length = (firstV x).length := by simp; omega
  rw [hlen]
  refine cnd_intro (fun h => ?_) (fun h => ?_)
  · have h := natlt h
    have hlt : s < (firstV x).length := by omega
    refine ⟨⟨by omega, by omega⟩, by omega, s + 1, by omega, by omega, ⟨next_T h (by omega), trivial⟩, ⟨rfl, vecw_eq ?_, trivial⟩, trivial⟩
    rw [List.drop_eq_getElem_cons hlt, set_at _ _ _ _ _ (by simp), List.replicate_succ', List.append_assoc]
    rfl
  · exact ⟨trivial, trivial, hn, rfl⟩
end Go.Proofs.Ytaikpkhclnkkaaa
