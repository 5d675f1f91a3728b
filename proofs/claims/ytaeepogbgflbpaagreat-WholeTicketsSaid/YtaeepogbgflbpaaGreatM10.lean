/- Parts of the proof, in one file: further parts. No condition. -/
import Derived.Test.YtaeepogbgflbpaaGreatM9

/- The law on tickets: the row's function answers true where the tickets are apart and good. No condition. -/
section
set_option linter.unusedVariables false
set_option linter.unusedSimpArgs false
set_option maxRecDepth 100000
set_option maxHeartbeats 2000000
namespace Go.Proofs.YtaeepogbgflbpaaGreat
open Go Go.Ax

theorem seenM_snoc (l : List Int) (t : Int) : seenM (l ++ [t]) = setM (seenM l) t true := by unfold seenM; rw [List.foldl_append]; rfl
theorem getM_seen (l : List Int) (t : Int) : getM (seenM l) t false = decide (t ∈ l) := by
  have key : ∀ (l : List Int) (m : List (Int × Bool)), getM (l.foldl (fun m t => setM m t true) m) t false = (decide (t ∈ l) || getM m t false) := by
    intro l
    induction l with
    | nil => intro m; simp
    | cons a l ih =>
      intro m
      rw [List.foldl_cons, ih, getM_set]
      by_cases h1 : t = a <;> by_cases h2 : t ∈ l <;> simp [h1, h2]
      all_goals subst h1; simp [h2]
  unfold seenM
  rw [key]
  simp [getM, findM]
structure TickOk (x : Cfg) (h : Hl) : Prop where
  told : ToldOk h
  apart : (allT h x.w.toNat).Nodup
  good : ∀ t ∈ allT h x.w.toNat, goodB x t = true
theorem allT_succ (h : Hl) (n : Nat) : allT h (n + 1) = allT h n ++ toldH h (n : Int) := by simp [allT, List.range_succ]
theorem allT_le (h : Hl) {n m : Nat} (hnm : n ≤ m) : ∃ r, allT h m = allT h n ++ r := by
  induction m with
  | zero => obtain rfl : n = 0 := by omega
            exact ⟨[], by simp⟩
  | succ m ih =>
    rcases Nat.lt_or_ge m n with h1 | h1
    · obtain rfl : n = m + 1 := by omega
      exact ⟨[], by simp⟩
    · obtain ⟨r, hr⟩ := ih h1
      exact ⟨r ++ toldH h (m : Int), by rw [allT_succ, hr, List.append_assoc]⟩
theorem tickets_told (x : Cfg) (load : List (List OpD)) (p : List Int) (hp : playP (x, load, p)) (hl : playB (x, load, p) = true → TickOk x (playH (x, load, p))) :
    aexecF cnd cx ΓT3 (specTick x (playH (x, load, p))) 100 Tryz.f3 (codeOf Tryz.f3) (aCLP.enc (x, load, p)) [] (fun y _ => y = .bool true) := by
  have e := vc_tickets (fun y => y = .bool true) x load p
  refine Eq.mpr e ⟨trivial, hp, cnd_intro (fun hB => ?_) (fun _ => rfl)⟩
  clear e
  have T := hl hB
  generalize playH (x, load, p) = H at T ⊢
  have hw := (sizes_of (play_valid hB)).w
  refine ⟨⟨0, by omega, ⟨rfl, trivial⟩, ⟨rfl, rfl, rfl, ⟨rfl, rfl⟩, rfl, rfl, rfl, rfl, rfl, rfl, rfl, rfl, rfl, rfl, rfl, trivial⟩, trivial⟩, fun s hs => cnd_intro (fun c => ?_) (fun _ => rfl)⟩
  have c : (s : Int) < x.w := of_decide_eq_true c
  obtain ⟨r, hr⟩ := allT_le H (n := s + 1) (m := x.w.toNat) (by omega)
  rw [allT_succ] at hr
  have hnd := T.apart
  rw [hr, List.nodup_append] at hnd
  have hnd := hnd.1
  rw [List.nodup_append] at hnd
  have hlen : (toldH H (s : Int)).length ≤ 60000 := by
    unfold toldH; split
    · exact T.told.2 _
    · exact Nat.zero_le _
  rw [Int.toNat_natCast]
  refine ⟨T.told, ⟨0, Nat.zero_le _, ⟨rfl, trivial⟩, ⟨rfl, rfl, rfl, ⟨rfl, rfl⟩, rfl, rfl, rfl, rfl, rfl, rfl, rfl, rfl, rfl, rfl, by rw [List.take_zero, List.append_nil], trivial⟩, trivial⟩, fun j hj => cnd_intro (fun d => ?_) (fun d => ?_)⟩
  · have d : j < (toldH H (s : Int)).length := by have := of_decide_eq_true d; omega
    have hmem := getD_mem (toldH H (s : Int)) j d 0
    have hgood : goodB x ((toldH H (s : Int)).getD j 0) = true := T.good _ (by rw [hr]; exact List.mem_append_left _ (List.mem_append_right _ hmem))
    have hget : (toldH H (s : Int)).getD j 0 = (toldH H (s : Int))[j] := by rw [List.getD_eq_getElem?_getD, List.getElem?_eq_getElem d]; rfl
    have hnew : ((toldH H (s : Int)).getD j 0) ∉ allT H s ++ (toldH H (s : Int)).take j := by
      intro hm
      rcases List.mem_append.1 hm with hm | hm
      · exact hnd.2.2 _ hm _ hmem rfl
      · rw [hget] at hm
        obtain ⟨k, hk, hk2⟩ := List.mem_take_iff_getElem.1 hm
        have := (List.getElem_inj hnd.2.1).1 hk2
        omega
    have hs' : getM (seenM (allT H s ++ (toldH H (s : Int)).take j)) ((toldH H (s : Int)).getD j 0) (K.dflt (tab (4 : TypeId))) = false := by
      have := getM_seen (allT H s ++ (toldH H (s : Int)).take j) ((toldH H (s : Int)).getD j 0)
      rw [decide_eq_false hnew] at this
      exact this
    rw [Int.toNat_natCast]
    refine ⟨⟨by omega, by omega⟩, cnd_intro (fun _ => ⟨⟨by omega, by omega⟩, trivial, cnd_intro (fun g => ?_) (fun _ => ⟨⟨by omega, by omega⟩, j + 1, d, by omega, ⟨next_of d (by omega), trivial⟩, ⟨rfl, rfl, rfl, ⟨rfl, rfl⟩, rfl, rfl, rfl, rfl, rfl, rfl, rfl, rfl, rfl, rfl, ?_, trivial⟩, trivial⟩)⟩) (fun g => ?_)⟩
    · rw [hgood] at g; cases g
    · have ht : (toldH H (s : Int)).take (j + 1) = (toldH H (s : Int)).take j ++ [(toldH H (s : Int)).getD j 0] := by
        rw [List.take_add_one, List.getElem?_eq_getElem d, hget]; rfl
      rw [ht, ← List.append_assoc, seenM_snoc]
    · rw [hs'] at g; cases g
  · have d : ¬ j < (toldH H (s : Int)).length := by have := of_decide_eq_false d; omega
    refine ⟨s + 1, by omega, by omega, ⟨next_of (n := 9) (by omega) (by omega), trivial⟩, ⟨rfl, rfl, rfl, ⟨rfl, rfl⟩, rfl, rfl, rfl, rfl, rfl, rfl, rfl, rfl, rfl, rfl, ?_, trivial⟩, trivial⟩
    rw [List.take_of_length_le (by omega), allT_succ]
end Go.Proofs.YtaeepogbgflbpaaGreat
end

/- Behind a whole run the tickets are apart and good. No condition. -/
section
set_option linter.unusedVariables false
set_option linter.unusedSimpArgs false
set_option maxRecDepth 100000
namespace Go.Proofs.YtaeepogbgflbpaaGreat
open Go Go.Ax

section
variable {x : Cfg} {load : List (List OpD)} {p : List Int}
theorem ticks_ok (h : playB (x, load, p) = true) : TickOk x (playH (x, load, p)) := by
  obtain ⟨I, hp⟩ := play_inv h
  generalize playH (x, load, p) = H at I ⊢
  obtain ⟨hF, _⟩ := inv_fine I hp
  refine ⟨⟨hF.l, fun w => by have := I.toldn w; omega⟩, ?_, fun t ht => ?_⟩
  · unfold allT
    refine List.pairwise_flatMap.2 ⟨fun w _ => ?_, ?_⟩
    · by_cases hw : isW H (w : Int) = true
      · have := I.tnd w (isW_nat hw)
        unfold iss at this
        unfold toldH; rw [if_pos hw]
        exact (List.nodup_append.1 this).1
      · unfold toldH; rw [if_neg hw]; exact List.nodup_nil
    · refine List.Pairwise.imp (fun {a b} hab t ht u hu e => ?_) (List.nodup_range (n := x.w.toNat))
      subst e
      obtain ⟨a1, _, a2⟩ := told_iss ht
      obtain ⟨b1, _, b2⟩ := told_iss hu
      exact I.tap a b a1 b1 hab t a2 b2
  · unfold allT at ht
    obtain ⟨w, _, hw⟩ := List.mem_flatMap.1 ht
    obtain ⟨a1, _, a2⟩ := told_iss hw
    exact (I.tick w a1 t a2).1
end
end Go.Proofs.YtaeepogbgflbpaaGreat
end
