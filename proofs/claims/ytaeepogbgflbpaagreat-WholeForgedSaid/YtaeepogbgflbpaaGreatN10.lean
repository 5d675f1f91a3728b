/- Parts of the proof, in one file: further parts. No condition. -/
import Derived.Test.YtaeepogbgflbpaaGreatN9

/- The law on forged tickets: the row's function answers true where the events are as they should be. No condition. -/
section
set_option linter.unusedVariables false
set_option linter.unusedSimpArgs false
set_option maxRecDepth 100000
set_option maxHeartbeats 2000000
namespace Go.Proofs.YtaeepogbgflbpaaGreat
open Go Go.Ax

/-- Whether the events are as they should be. -/
structure ForgeOk (h : Hl) : Prop where
  ev : evP h
  told : ∀ i, i < h.ev.length → skipB (evAt h i) = false → badB (getM (toldE (h.ev.take i)) (evAt h i).ans.t false) (evAt h i) = false
  once : ∀ i, i < h.ev.length → skipB (evAt h i) = false → isFr (evAt h i) = true → getM (freedE (h.ev.take i)) (evAt h i).ans.t false = false
theorem take_evAt {h : Hl} {i : Nat} (hi : i < h.ev.length) : h.ev.take (i + 1) = h.ev.take i ++ [evAt h i] := by
  rw [List.take_add_one, List.getElem?_eq_getElem hi]
  unfold evAt
  rw [List.getD_eq_getElem?_getD, List.getElem?_eq_getElem hi]; rfl
theorem told_next {h : Hl} {i : Nat} (hi : i < h.ev.length) : toldE (h.ev.take (i + 1)) = tStep (toldE (h.ev.take i)) (evAt h i) := by
  rw [take_evAt hi]; unfold toldE; rw [List.foldl_append]; rfl
theorem freed_next {h : Hl} {i : Nat} (hi : i < h.ev.length) : freedE (h.ev.take (i + 1)) = fStep (freedE (h.ev.take i)) (evAt h i) := by
  rw [take_evAt hi]; unfold freedE; rw [List.foldl_append]; rfl
theorem tStep_skip {m : List (Int × Bool)} {e : Ev} (h : skipB e = false) : tStep m e = m := by
  have : isAl e = false := by
    unfold skipB at h; unfold isAl
    simp only [decide_eq_false_iff_not] at h ⊢
    omega
  unfold tStep; rw [this]; rfl
theorem forged_told (x : Cfg) (load : List (List OpD)) (p : List Int) (hp : playP (x, load, p)) (hl : playB (x, load, p) = true → ForgeOk (playH (x, load, p))) :
    aexecF cnd cx ΓT4 (specForge (playH (x, load, p))) 100 Tryz.f4 (codeOf Tryz.f4) (aCLP.enc (x, load, p)) [] (fun y _ => y = .bool true) := by
  have e := vc_forged (fun y => y = .bool true) x load p
  refine Eq.mpr e ⟨trivial, hp, cnd_intro (fun hB => ?_) (fun _ => rfl)⟩
  clear e
  have T := hl hB
  generalize playH (x, load, p) = H at T ⊢
  have hlen := T.ev.1
  refine ⟨⟨(), by repeat' first | exact trivial | exact rfl | constructor⟩, fun _ _ => ⟨⟨T.ev, (), by repeat' first | exact trivial | exact rfl | constructor⟩, fun _ _ => ⟨⟨0, Nat.zero_le _, by repeat' first | exact trivial | exact rfl | constructor⟩, fun s hs => cnd_intro (fun c => ?_) (fun _ => rfl)⟩⟩⟩
  have c : (s : Int) < (H.ev.length : Int) := of_decide_eq_true c
  have hi : s < H.ev.length := by omega
  rw [Int.toNat_natCast]
  have hA := T.told s hi
  have hF := T.once s hi
  have n1 := told_next hi
  have n2 := freed_next hi
  have bA := boxA_ok (evAt H s)
  have bB := boxB_ok (evAt H s)
  have hskip : ∀ m, skipB (evAt H s) = false → tStep m (evAt H s) = m := fun m h => tStep_skip h
  have hnext := next_of (i := s) hi (by omega)
  generalize evAt H s = E at *
  refine ⟨⟨by omega, by omega⟩, ⟨?_, fun _ _ => ?_⟩, fun _ _ => ⟨?_, fun _ hsk => ⟨?_, fun _ _ => cnd_intro (fun hbad => ?_) (fun hbad => ⟨?_, fun _ _ => ?_⟩)⟩⟩⟩
  · refine cnd_intro (fun d1 => cnd_intro (fun d2 => ?_) (fun d2 => ?_)) (fun d1 => ?_)
    all_goals refine ⟨(), trivial, ⟨?_, trivial⟩, ⟨rfl, rfl, bA, bB, trivial⟩, trivial⟩
    all_goals refine congrArg AVal.bool ?_
    all_goals clear hA hF hskip n1 n2
    all_goals unfold isAl
    all_goals simp_all
    all_goals rw [Bool.eq_iff_iff]; simp
  · refine cnd_intro (fun d1 => ?_) (fun d1 => ?_)
    all_goals refine ⟨(), trivial, trivial, ⟨?_, rfl, bA, bB, trivial⟩, trivial⟩
    all_goals refine congrArg (Res.mapS (El := El) IntKind.u64 4) ?_
    all_goals unfold tStep
    · rw [if_pos d1]
    · rw [if_neg (by rw [d1]; decide)]
  · have hno : skipB E = true → ∃ s' : Nat, s' ≤ H.ev.length ∧ H.ev.length - s' < H.ev.length - s ∧ (EqA (AVal.int IntKind.i64 (wr ((s : Int) + 1))) (AVal.int IntKind.i64 (s' : Int)) ∧ True) ∧
        (EqR (Res.mapS IntKind.u64 4 (tStep (toldE (List.take s H.ev)) E)) (Res.mapS IntKind.u64 4 (toldE (List.take s' H.ev))) ∧ EqR (Res.mapS IntKind.u64 4 (freedE (List.take s H.ev))) (Res.mapS IntKind.u64 4 (freedE (List.take s' H.ev))) ∧ True) ∧ True := by
      intro hs1
      refine ⟨s + 1, by omega, by omega, ⟨hnext, trivial⟩, ⟨?_, ?_, trivial⟩, trivial⟩
      · rw [n1]
      · rw [n2]; unfold fStep; rw [if_neg (by rw [hs1]; simp)]
    refine cnd_intro (fun d1 => cnd_intro (fun d2 => cnd_intro (fun d3 => cnd_intro (fun d4 => ?_) (fun d4 => ?_)) (fun d3 => ?_)) (fun d2 => ?_)) (fun d1 => ?_)
    all_goals first | (refine hno ?_; clear hA hF hskip hno n1 n2; unfold skipB; simp_all; done) | (refine ⟨(), ?_, trivial, ⟨rfl, rfl, bA, bB, trivial⟩, trivial⟩; clear hA hF hskip hno n1 n2; unfold skipB; simp_all; done)
  · have hb : badB (getM (tStep (toldE (List.take s H.ev)) E) E.ans.t false) E = false := by rw [hskip _ hsk]; exact hA hsk
    have gM : getM (tStep (toldE (List.take s H.ev)) E) E.ans.t (K.dflt (tab (4 : TypeId))) = getM (tStep (toldE (List.take s H.ev)) E) E.ans.t false := rfl
    rw [gM]
    generalize getM (tStep (toldE (List.take s H.ev)) E) E.ans.t false = g at *
    clear hA hF hskip n1 n2 gM
    refine cnd_intro (fun d1 => cnd_intro (fun d2 => cnd_intro (fun d3 => cnd_intro (fun d4 => cnd_intro (fun d5 => cnd_intro (fun d6 => ?_) (fun d6 => ?_)) (fun d5 => ?_)) (fun d4 => ?_)) (fun d3 => cnd_intro (fun d5 => cnd_intro (fun d6 => ?_) (fun d6 => ?_)) (fun d5 => ?_))) (fun d2 => cnd_intro (fun d5 => cnd_intro (fun d6 => ?_) (fun d6 => ?_)) (fun d5 => ?_))) (fun d1 => ?_)
    all_goals refine ⟨(), trivial, ⟨?_, trivial⟩, ⟨rfl, rfl, bA, bB, trivial⟩, trivial⟩
    all_goals refine congrArg AVal.bool ?_
    all_goals rw [hb]
    all_goals try rfl
    all_goals unfold badB at hb
    all_goals simp_all
  · rw [hskip _ hsk, hA hsk] at hbad; cases hbad
  · refine cnd_intro (fun d1 => ?_) (fun d1 => ?_)
    all_goals refine ⟨(), trivial, ⟨?_, trivial⟩, ⟨rfl, rfl, bA, bB, trivial⟩, trivial⟩
    all_goals refine congrArg AVal.bool ?_
    all_goals clear hA hF hskip n1 n2
    all_goals unfold isFr
    all_goals simp_all
    all_goals rw [Bool.eq_iff_iff]; simp
  · refine cnd_intro (fun d1 => cnd_intro (fun d2 => ?_) (fun d2 => ?_)) (fun d1 => ?_)
    · have : getM (freedE (List.take s H.ev)) E.ans.t false = true := d2
      rw [hF hsk d1] at this; cases this
    · refine ⟨s + 1, by omega, by omega, ⟨hnext, trivial⟩, ⟨?_, ?_, trivial⟩, trivial⟩
      · rw [n1]
      · rw [n2]; unfold fStep; rw [if_pos ⟨hsk, d1⟩]
    · refine ⟨s + 1, by omega, by omega, ⟨hnext, trivial⟩, ⟨?_, ?_, trivial⟩, trivial⟩
      · rw [n1]
      · rw [n2]; unfold fStep; rw [if_neg (by rw [d1]; simp)]
end Go.Proofs.YtaeepogbgflbpaaGreat
end

/- Behind a whole run the events are as they should be. No condition. -/
section
set_option linter.unusedVariables false
set_option linter.unusedSimpArgs false
set_option maxRecDepth 100000
namespace Go.Proofs.YtaeepogbgflbpaaGreat
open Go Go.Ax

section
variable {x : Cfg} {load : List (List OpD)} {p : List Int}
theorem forge_ok (h : playB (x, load, p) = true) : ForgeOk (playH (x, load, p)) := by
  obtain ⟨I, hp⟩ := play_inv h
  generalize playH (x, load, p) = H at I ⊢
  exact ⟨⟨by have := I.evn; omega, fun e he => by have := I.evr e he; unfold small; omega⟩, fun i hi hs => (I.evok i hi hs).1, fun i hi hs => (I.evok i hi hs).2⟩
end
end Go.Proofs.YtaeepogbgflbpaaGreat
end
