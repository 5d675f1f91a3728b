/- Parts of the proof, in one file: further parts. No condition. -/
import Derived.Test.YtaeepogbgflbpaaGreatM5

/- What one step of an operation comes to, line by line, printed. No condition. -/
section
set_option linter.unusedVariables false
set_option linter.unusedSimpArgs false
set_option maxRecDepth 100000
set_option maxHeartbeats 4000000
namespace Go.Proofs.YtaeepogbgflbpaaGreat
open Go Go.Ax

theorem vc_st3 (K : Md → (Wk × Bool) → Prop) (m : Md) (w : Int) (x : Wk) : aexecF cnd cx ΓH noSpec 300 Tryz.f40 (codeOf Tryz.f40) (.ptr 0 0 :: aWX.enc (w, Wk.with26 (Wk.with0 x 3) false)) (GM.gr m)
  (fun y R => rdG GM cdWB y R K) = ( True ∧ True ∧ True ∧ True ∧ True ∧ cnd (rdW (clearM m) 0 == x.e) (cnd (x.op.k != (1 : Int)) (Lim (70000 : Nat) (Wk.with26 (Wk.with0 x 0) false) ∧ K (Md.with1 m (seeM
  (clearM m) (Acc.mk 1 0 0 0 0))) (bodyW (Wk.with26 (Wk.with0 x 0) false), true)) (K (Md.with1 m (seeM (clearM m) (Acc.mk 1 0 0 0 0))) (Wk.with26 (Wk.with16 (Wk.with2 (Wk.with0 x 0) true) 0) false,
  true))) (K (Md.with1 m (seeM (clearM m) (Acc.mk 1 0 0 0 0))) (Wk.with26 (Wk.with3 (Wk.with0 x 2) (rdW (clearM m) 0)) false, true))) := by kernel_rfl

theorem vc_st72 (K : Md → (Wk × Bool) → Prop) (m : Md) (w : Int) (x : Wk) : aexecF cnd cx ΓH noSpec 300 Tryz.f40 (codeOf Tryz.f40) (.ptr 0 0 :: aWX.enc (w, Wk.with26
  (Wk.with0 x 72) false)) (GM.gr m) (fun y R => rdG GM cdWB y R K) = ( True ∧ True ∧ True ∧ True ∧ True ∧ cnd (casB (clearM m) (0 : Int) x.v) (K (Md.mk m.c (seeM (clearM m)
  (Acc.mk (3 : Int) (0 : Int) x.v (wu (x.v + (1 : Int))) (0 : Int))) (if casB (clearM m) (0 : Int) x.v = true then List.set m.ws (Int.toNat (0 : Int)) (wu (x.v + (1 :
  Int))) else m.ws)) (Wk.with26 (Wk.with0 x (73 : Int)) false, true)) (K (Md.mk m.c (seeM (clearM m) (Acc.mk (3 : Int) (0 : Int) x.v (wu (x.v + (1 : Int))) (0 : Int))) (if
  casB (clearM m) (0 : Int) x.v = true then List.set m.ws (Int.toNat (0 : Int)) (wu (x.v + (1 : Int))) else m.ws)) (Wk.with26 (Wk.with0 x (73 : Int)) false, true))) := by
  kernel_rfl

theorem vc_st10 (K : Md → (Wk × Bool) → Prop) (m : Md) (w : Int) (x : Wk) : aexecF cnd cx ΓH noSpec 300 Tryz.f40 (codeOf Tryz.f40) (.ptr 0 0 :: aWX.enc (w, Wk.with26 (Wk.with0 x 10) false)) (GM.gr m)
  (fun y R => rdG GM cdWB y R K) = ( True ∧ True ∧ True ∧ True ∧ True ∧ ((10 : Int) = (0 : Int) → False) ∧ True ∧ True ∧ cnd (lowW (rdW (clearM m) 1) == (0 : Int)) (True ∧ K (Md.with1 m (seeM (clearM m)
  (Acc.mk 1 1 0 0 0))) (Wk.with26 (Wk.with22 (Wk.with20 (Wk.with19 (Wk.with17 (Wk.with0 x 33) (lowW (rdW (clearM m) 1))) (rdW (clearM m) 1)) (hdV (rdW (clearM m) 1))) 0) false, true)) (K (Md.with1 m
  (seeM (clearM m) (Acc.mk 1 1 0 0 0))) (Wk.with26 (Wk.with19 (Wk.with17 (Wk.with0 x (wr ((10 : Int) + (1 : Int)))) (lowW (rdW (clearM m) 1))) (rdW (clearM m) 1)) false, true))) := by kernel_rfl

theorem vc_st31 (K : Md → (Wk × Bool) → Prop) (m : Md) (w : Int) (x : Wk) : aexecF cnd cx ΓH noSpec 300 Tryz.f40 (codeOf Tryz.f40) (.ptr 0 0 :: aWX.enc (w, Wk.with26 (Wk.with0 x 31) false)) (GM.gr m)
  (fun y R => rdG GM cdWB y R K) = ( True ∧ True ∧ True ∧ True ∧ True ∧ True ∧ K (Md.with1 m (seeM (clearM m) (Acc.mk 1 0 0 0 0))) (Wk.with26 (Wk.with19 (Wk.with0 x 32) (rdW (clearM m) 0)) false, true))
  := by kernel_rfl

theorem vc_st35 (K : Md → (Wk × Bool) → Prop) (m : Md) (w : Int) (x : Wk) : aexecF cnd cx ΓH noSpec 300 Tryz.f40 (codeOf Tryz.f40) (.ptr 0 0 :: aWX.enc (w, Wk.with26
  (Wk.with0 x 35) false)) (GM.gr m) (fun y R => rdG GM cdWB y R K) = ( True ∧ True ∧ True ∧ True ∧ True ∧ True ∧ True ∧ True ∧ True ∧ True ∧ True ∧ True ∧ cnd (!slbS (rdW
  (clearM m) (slabV m.c (homeV m.c (wr (x.b - (1 : Int)))))) == (2 : Int)) (K (Md.with1 m (seeM (clearM m) (Acc.mk (1 : Int) (slabV m.c (homeV m.c (wr (x.b - (1 : Int)))))
  (0 : Int) (0 : Int) (0 : Int)))) (Wk.with26 (Wk.with22 (Wk.with0 x (50 : Int)) (0 : Int)) false, true)) (K (Md.with1 m (seeM (clearM m) (Acc.mk (1 : Int) (slabV m.c
  (homeV m.c (wr (x.b - (1 : Int))))) (0 : Int) (0 : Int) (0 : Int)))) (Wk.with26 (Wk.with13 (Wk.with12 (Wk.with0 x (30 : Int)) (0 : Int)) x.b) false, true))) := by
  kernel_rfl

theorem vc_st21 (K : Md → (Wk × Bool) → Prop) (m : Md) (w : Int) (x : Wk) : aexecF cnd cx ΓH noSpec 300 Tryz.f40 (codeOf Tryz.f40) (.ptr 0 0 :: aWX.enc (w, Wk.with26 (Wk.with0 x 21) false)) (GM.gr m)
  (fun y R => rdG GM cdWB y R K) = ( True ∧ True ∧ True ∧ ((10 : Int) = (0 : Int) → False) ∧ True ∧ True ∧ K (Md.with1 m (seeM (clearM m) (Acc.mk 1 (entryLinkV m.c (wr (wr x.h - (1 : Int)))) 0 0 0)))
  (Wk.with26 (Wk.with18 (Wk.with0 x (wr ((21 : Int) + (1 : Int)))) (rdW (clearM m) (entryLinkV m.c (wr (wr x.h - (1 : Int)))))) false, true)) := by kernel_rfl

theorem vc_st23 (K : Md → (Wk × Bool) → Prop) (m : Md) (w : Int) (x : Wk) : aexecF cnd cx ΓH noSpec 300 Tryz.f40 (codeOf Tryz.f40) (.ptr 0 0 :: aWX.enc (w, Wk.with26
  (Wk.with0 x 23) false)) (GM.gr m) (fun y R => rdG GM cdWB y R K) = ( True ∧ True ∧ True ∧ ((10 : Int) = (0 : Int) → False) ∧ True ∧ K (Md.with1 m (seeM (clearM m) (Acc.mk
  (1 : Int) (2 : Int) (0 : Int) (0 : Int) (0 : Int)))) (Wk.with26 (Wk.with19 (Wk.with0 x (wr ((23 : Int) + (1 : Int)))) (rdW (clearM m) (2 : Int))) false, true)) := by
  kernel_rfl

theorem vc_st43 (K : Md → (Wk × Bool) → Prop) (m : Md) (w : Int) (x : Wk) : aexecF cnd cx ΓH noSpec 300 Tryz.f40 (codeOf Tryz.f40) (.ptr 0 0 :: aWX.enc (w, Wk.with26 (Wk.with0 x 43) false)) (GM.gr m)
  (fun y R => rdG GM cdWB y R K) = ( True ∧ True ∧ True ∧ True ∧ True ∧ True ∧ cnd (decide (tkG x.t ≥ m.c.l)) (True ∧ True ∧ cnd (casB (clearM m) (entryV m.c (tkE x.t)) x.v) (Easy (Wk.with26 (Wk.with14
  (Wk.with0 x 0) 0) false) ∧ Easy (Wk.with26 (Wk.with14 (Wk.with0 x 0) 0) false) ∧ cnd ((bagPut (m.c, Wk.with26 (Wk.with14 (Wk.with0 x 0) 0) false, wr (x.c - (1 : Int)))).fst.i != (0 : Int)) (K (Md.mk
  m.c (seeM (clearM m) (Acc.mk 3 (entryV m.c (tkE x.t)) x.v (entryW (tkG x.t) (-1 : Int) 2) 0)) (if casB (clearM m) (entryV m.c (tkE x.t)) x.v = true then List.set m.ws (Int.toNat (entryV m.c (tkE
  x.t))) (entryW (tkG x.t) (-1 : Int) 2) else m.ws)) (Wk.with15 (Wk.with0 (bagPut (m.c, Wk.with26 (Wk.with14 (Wk.with0 x 0) 0) false, wr (x.c - (1 : Int)))).fst 23) 0, true)) (Lim (70000 : Nat)
  (Wk.with15 (bagPut (m.c, Wk.with26 (Wk.with14 (Wk.with0 x 0) 0) false, wr (x.c - (1 : Int)))).fst 0) ∧ K (Md.mk m.c (seeM (clearM m) (Acc.mk 3 (entryV m.c (tkE x.t)) x.v (entryW (tkG x.t) (-1 : Int)
  2) 0)) (if casB (clearM m) (entryV m.c (tkE x.t)) x.v = true then List.set m.ws (Int.toNat (entryV m.c (tkE x.t))) (entryW (tkG x.t) (-1 : Int) 2) else m.ws)) (giveBackW (Wk.with15 (bagPut (m.c,
  Wk.with26 (Wk.with14 (Wk.with0 x 0) 0) false, wr (x.c - (1 : Int)))).fst 0), true))) (K (Md.mk m.c (seeM (clearM m) (Acc.mk 3 (entryV m.c (tkE x.t)) x.v (entryW (tkG x.t) (-1 : Int) 2) 0)) (if casB
  (clearM m) (entryV m.c (tkE x.t)) x.v = true then List.set m.ws (Int.toNat (entryV m.c (tkE x.t))) (entryW (tkG x.t) (-1 : Int) 2) else m.ws)) (Wk.with26 (Wk.with0 x 42) false, true))) (True ∧ cnd
  (casB (clearM m) (entryV m.c (tkE x.t)) x.v) (Easy (Wk.with26 (Wk.with14 (Wk.with0 x 0) (wr (tkE x.t + (1 : Int)))) false) ∧ Easy (Wk.with26 (Wk.with14 (Wk.with0 x 0) (wr (tkE x.t + (1 : Int))))
  false) ∧ cnd ((bagPut (m.c, Wk.with26 (Wk.with14 (Wk.with0 x 0) (wr (tkE x.t + (1 : Int)))) false, wr (x.c - (1 : Int)))).fst.i != (0 : Int)) (K (Md.mk m.c (seeM (clearM m) (Acc.mk 3 (entryV m.c (tkE
  x.t)) x.v (entryW (wu (tkG x.t + (1 : Int))) (-1 : Int) 0) 0)) (if casB (clearM m) (entryV m.c (tkE x.t)) x.v = true then List.set m.ws (Int.toNat (entryV m.c (tkE x.t))) (entryW (wu (tkG x.t + (1 :
  Int))) (-1 : Int) 0) else m.ws)) (Wk.with15 (Wk.with0 (bagPut (m.c, Wk.with26 (Wk.with14 (Wk.with0 x 0) (wr (tkE x.t + (1 : Int)))) false, wr (x.c - (1 : Int)))).fst 23) 0, true)) (Lim (70000 : Nat)
  (Wk.with15 (bagPut (m.c, Wk.with26 (Wk.with14 (Wk.with0 x 0) (wr (tkE x.t + (1 : Int)))) false, wr (x.c - (1 : Int)))).fst 0) ∧ K (Md.mk m.c (seeM (clearM m) (Acc.mk 3 (entryV m.c (tkE x.t)) x.v
  (entryW (wu (tkG x.t + (1 : Int))) (-1 : Int) 0) 0)) (if casB (clearM m) (entryV m.c (tkE x.t)) x.v = true then List.set m.ws (Int.toNat (entryV m.c (tkE x.t))) (entryW (wu (tkG x.t + (1 : Int))) (-1
  : Int) 0) else m.ws)) (giveBackW (Wk.with15 (bagPut (m.c, Wk.with26 (Wk.with14 (Wk.with0 x 0) (wr (tkE x.t + (1 : Int)))) false, wr (x.c - (1 : Int)))).fst 0), true))) (K (Md.mk m.c (seeM (clearM m)
  (Acc.mk 3 (entryV m.c (tkE x.t)) x.v (entryW (wu (tkG x.t + (1 : Int))) (-1 : Int) 0) 0)) (if casB (clearM m) (entryV m.c (tkE x.t)) x.v = true then List.set m.ws (Int.toNat (entryV m.c (tkE x.t)))
  (entryW (wu (tkG x.t + (1 : Int))) (-1 : Int) 0) else m.ws)) (Wk.with26 (Wk.with0 x 42) false, true)))) := by kernel_rfl

theorem vc_st60 (K : Md → (Wk × Bool) → Prop) (m : Md) (w : Int) (x : Wk) : aexecF cnd cx ΓH noSpec 300 Tryz.f40 (codeOf Tryz.f40) (.ptr 0 0 :: aWX.enc (w, Wk.with26 (Wk.with0 x 60) false)) (GM.gr m)
  (fun y R => rdG GM cdWB y R K) = ( True ∧ True ∧ True ∧ True ∧ True ∧ True ∧ True ∧ cnd ((entS (rdW (clearM m) (entryV m.c (tkE x.t))) == (1 : Int)) == true) (cnd (entG (rdW (clearM m) (entryV m.c
  (tkE x.t))) == tkG x.t) (K (Md.with1 m (seeM (clearM m) (Acc.mk 1 (entryV m.c (tkE x.t)) 0 0 0))) (Wk.with26 (Wk.with22 (Wk.with19 (Wk.with15 (Wk.with0 x 61) (wr (entB (rdW (clearM m) (entryV m.c (tkE
  x.t))) + (1 : Int)))) (rdW (clearM m) (entryV m.c (tkE x.t)))) 0) false, true)) (Lim (60000 : Nat) (Wk.with26 (Wk.with0 x 0) false) ∧ K (Md.with1 m (seeM (clearM m) (Acc.mk 1 (entryV m.c (tkE x.t)) 0
  0 0))) (failW (Wk.with26 (Wk.with0 x 0) false, (7 : Int)), true))) (Lim (60000 : Nat) (Wk.with26 (Wk.with0 x 0) false) ∧ K (Md.with1 m (seeM (clearM m) (Acc.mk 1 (entryV m.c (tkE x.t)) 0 0 0))) (failW
  (Wk.with26 (Wk.with0 x 0) false, (7 : Int)), true))) := by kernel_rfl

theorem vc_st14g (K : Md → (Wk × Bool) → Prop) (m : Md) (w : Int) (x : Wk) : aexecF cnd cx ΓH noSpec 300 Tryz.f40 (codeOf Tryz.f40) (.ptr 0 0 :: aWX.enc (w, Wk.with26 (Wk.with0 x 14) true)) (GM.gr m)
  (fun y R => rdG GM cdWB y R K) = ( True ∧ True ∧ True ∧ ((10 : Int) = (0 : Int) → False) ∧ True ∧ True ∧ True ∧ True ∧ True ∧ True ∧ K (Md.mk m.c (seeM (clearM m) (Acc.mk 2 (blockLinkV m.c (wr (x.k -
  (1 : Int)))) (lowW x.v) 0 0)) (if inM (clearM m) (blockLinkV m.c (wr (x.k - (1 : Int)))) = true then List.set m.ws (Int.toNat (blockLinkV m.c (wr (x.k - (1 : Int))))) (lowW x.v) else m.ws)) (Wk.with26
  (Wk.with0 x (wr ((14 : Int) + (1 : Int)))) true, true)) := by kernel_rfl

theorem vc_st32g (K : Md → (Wk × Bool) → Prop) (m : Md) (w : Int) (x : Wk) : aexecF cnd cx ΓH noSpec 300 Tryz.f40 (codeOf Tryz.f40) (.ptr 0 0 :: aWX.enc (w, Wk.with26 (Wk.with0 x 32) true)) (GM.gr m)
  (fun y R => rdG GM cdWB y R K) = ( True ∧ True ∧ True ∧ True ∧ True ∧ True ∧ True ∧ True ∧ True ∧ True ∧ True ∧ Lim (70000 : Nat) (Wk.with26 (Wk.with13 (Wk.with0 x 0) 0) true) ∧ cnd ((giveBeginW
  (Wk.with26 (Wk.with13 (Wk.with0 x 0) 0) true)).snd == (1 : Int)) (True ∧ K (Md.mk m.c (seeM (clearM m) (Acc.mk 2 (slabV m.c (homeV m.c (wr (x.k - (1 : Int))))) (slabW 3 0 x.v) 0 0)) (if inM (clearM m)
  (slabV m.c (homeV m.c (wr (x.k - (1 : Int))))) = true then List.set m.ws (Int.toNat (slabV m.c (homeV m.c (wr (x.k - (1 : Int)))))) (slabW 3 0 x.v) else m.ws)) (throughW (giveBeginW (Wk.with26
  (Wk.with13 (Wk.with0 x 0) 0) true)).fst, true)) (cnd ((giveBeginW (Wk.with26 (Wk.with13 (Wk.with0 x 0) 0) true)).snd == (2 : Int)) (True ∧ K (Md.mk m.c (seeM (clearM m) (Acc.mk 2 (slabV m.c (homeV m.c
  (wr (x.k - (1 : Int))))) (slabW 3 0 x.v) 0 0)) (if inM (clearM m) (slabV m.c (homeV m.c (wr (x.k - (1 : Int))))) = true then List.set m.ws (Int.toNat (slabV m.c (homeV m.c (wr (x.k - (1 : Int))))))
  (slabW 3 0 x.v) else m.ws)) (throughW (giveBeginW (Wk.with26 (Wk.with13 (Wk.with0 x 0) 0) true)).fst, true)) (K (Md.mk m.c (seeM (clearM m) (Acc.mk 2 (slabV m.c (homeV m.c (wr (x.k - (1 : Int)))))
  (slabW 3 0 x.v) 0 0)) (if inM (clearM m) (slabV m.c (homeV m.c (wr (x.k - (1 : Int))))) = true then List.set m.ws (Int.toNat (slabV m.c (homeV m.c (wr (x.k - (1 : Int)))))) (slabW 3 0 x.v) else m.ws))
  ((giveBeginW (Wk.with26 (Wk.with13 (Wk.with0 x 0) 0) true)).fst, true)))) := by kernel_rfl

end Go.Proofs.YtaeepogbgflbpaaGreat
end

/- What one step of an operation comes to, line by line, printed. No condition. -/
section
set_option linter.unusedVariables false
set_option linter.unusedSimpArgs false
set_option maxRecDepth 100000
set_option maxHeartbeats 4000000
namespace Go.Proofs.YtaeepogbgflbpaaGreat
open Go Go.Ax

theorem vc_st90 (K : Md → (Wk × Bool) → Prop) (m : Md) (w : Int) (x : Wk) : aexecF cnd cx ΓH noSpec 300 Tryz.f40 (codeOf Tryz.f40) (.ptr 0 0 :: aWX.enc (w, Wk.with26 (Wk.with0 x 90) false)) (GM.gr m)
  (fun y R => rdG GM cdWB y R K) = ( True ∧ True ∧ True ∧ True ∧ True ∧ True ∧ True ∧ cnd (x.op.k == (2 : Int)) (K (Md.mk m.c (seeM (clearM m) (Acc.mk 2 (announceV m.c w) (annW x.e false) 0 0)) (if inM
  (clearM m) (announceV m.c w) = true then List.set m.ws (Int.toNat (announceV m.c w)) (annW x.e false) else m.ws)) (Wk.with26 (Wk.with16 (Wk.with2 (Wk.with0 x 0) false) 0) false, true)) (K (Md.mk m.c
  (seeM (clearM m) (Acc.mk 2 (announceV m.c w) (annW x.e false) 0 0)) (if inM (clearM m) (announceV m.c w) = true then List.set m.ws (Int.toNat (announceV m.c w)) (annW x.e false) else m.ws)) (Wk.with26
  (Wk.with0 x 0) false, true))) := by kernel_rfl

theorem vc_st73 (K : Md → (Wk × Bool) → Prop) (m : Md) (w : Int) (x : Wk) : aexecF cnd cx ΓH noSpec 300 Tryz.f40 (codeOf Tryz.f40) (.ptr 0 0 :: aWX.enc (w, Wk.with26 (Wk.with0 x 73) false)) (GM.gr m)
  (fun y R => rdG GM cdWB y R K) = ( True ∧ True ∧ True ∧ Easy (Wk.with26 (Wk.with0 x 73) false) ∧ Lim (70000 : Nat) (ripeW (Wk.with26 (Wk.with0 x 73) false, rdW (clearM m) 0)) ∧ K (Md.with1 m (seeM
  (clearM m) (Acc.mk 1 0 0 0 0))) (giveBackW (ripeW (Wk.with26 (Wk.with0 x 73) false, rdW (clearM m) 0)), true)) := by kernel_rfl

theorem vc_st11 (K : Md → (Wk × Bool) → Prop) (m : Md) (w : Int) (x : Wk) : aexecF cnd cx ΓH noSpec 300 Tryz.f40 (codeOf Tryz.f40) (.ptr 0 0 :: aWX.enc (w, Wk.with26 (Wk.with0 x 11) false)) (GM.gr m)
  (fun y R => rdG GM cdWB y R K) = ( True ∧ True ∧ True ∧ True ∧ True ∧ ((10 : Int) = (0 : Int) → False) ∧ True ∧ True ∧ K (Md.with1 m (seeM (clearM m) (Acc.mk 1 (blockLinkV m.c (wr (wr x.h - (1 :
  Int)))) 0 0 0))) (Wk.with26 (Wk.with18 (Wk.with0 x (wr ((11 : Int) + (1 : Int)))) (rdW (clearM m) (blockLinkV m.c (wr (wr x.h - (1 : Int)))))) false, true)) := by kernel_rfl

theorem vc_st32 (K : Md → (Wk × Bool) → Prop) (m : Md) (w : Int) (x : Wk) : aexecF cnd cx ΓH noSpec 300 Tryz.f40 (codeOf Tryz.f40) (.ptr 0 0 :: aWX.enc (w, Wk.with26
  (Wk.with0 x 32) false)) (GM.gr m) (fun y R => rdG GM cdWB y R K) = ( True ∧ True ∧ True ∧ True ∧ True ∧ True ∧ True ∧ True ∧ True ∧ True ∧ True ∧ True ∧ True ∧ Lim (70000
  : Nat) (Wk.with26 (Wk.with13 (Wk.with0 x (0 : Int)) (0 : Int)) false) ∧ K (Md.mk m.c (seeM (clearM m) (Acc.mk (2 : Int) (slabV m.c (homeV m.c (wr (x.k - (1 : Int)))))
  (slabW (3 : Int) (0 : Int) x.v) (0 : Int) (0 : Int))) (if inM (clearM m) (slabV m.c (homeV m.c (wr (x.k - (1 : Int))))) = true then List.set m.ws (Int.toNat (slabV m.c
  (homeV m.c (wr (x.k - (1 : Int)))))) (slabW (3 : Int) (0 : Int) x.v) else m.ws)) (takeBeginW (Wk.with26 (Wk.with13 (Wk.with0 x (0 : Int)) (0 : Int)) false), true)) := by
  kernel_rfl

theorem vc_st38 (K : Md → (Wk × Bool) → Prop) (m : Md) (w : Int) (x : Wk) : aexecF cnd cx ΓH noSpec 300 Tryz.f40 (codeOf Tryz.f40) (.ptr 0 0 :: aWX.enc (w, Wk.with26 (Wk.with0 x 38) false)) (GM.gr m)
  (fun y R => rdG GM cdWB y R K) = ( True ∧ True ∧ True ∧ True ∧ cnd ((IntKind.wrap IntKind.u32 (rdW (clearM m) 1) == (0 : Int)) == true) ((0 : Int) ≤ (32 : Int) ∧ cnd (Int.fdiv (rdW (clearM m) 1)
  (4294967296 : Int) == x.u) (Lim (60000 : Nat) (Wk.with26 (Wk.with0 x 0) false) ∧ K (Md.with1 m (seeM (clearM m) (Acc.mk 1 1 0 0 0))) (failW (Wk.with26 (Wk.with0 x 0) false, (5 : Int)), true)) (Lim
  (70000 : Nat) (Wk.with26 (Wk.with0 x 38) false) ∧ K (Md.with1 m (seeM (clearM m) (Acc.mk 1 1 0 0 0))) (takeBeginW (Wk.with26 (Wk.with0 x 38) false), true))) (Lim (70000 : Nat) (Wk.with26 (Wk.with0 x
  38) false) ∧ K (Md.with1 m (seeM (clearM m) (Acc.mk 1 1 0 0 0))) (takeBeginW (Wk.with26 (Wk.with0 x 38) false), true))) := by kernel_rfl

theorem vc_st22 (K : Md → (Wk × Bool) → Prop) (m : Md) (w : Int) (x : Wk) : aexecF cnd cx ΓH noSpec 300 Tryz.f40 (codeOf Tryz.f40) (.ptr 0 0 :: aWX.enc (w, Wk.with26 (Wk.with0 x 22) false)) (GM.gr m)
  (fun y R => rdG GM cdWB y R K) = ( True ∧ True ∧ True ∧ ((10 : Int) = (0 : Int) → False) ∧ True ∧ True ∧ True ∧ True ∧ True ∧ True ∧ True ∧ True ∧ cnd (casB (clearM m) 2 x.v) (K (Md.mk m.c (seeM
  (clearM m) (Acc.mk 3 2 x.v (headW (wr (wr (lowW x.n) - (1 : Int))) (wu (hdV x.v + (1 : Int)))) 0)) (if casB (clearM m) 2 x.v = true then List.set m.ws (Int.toNat (2 : Int)) (headW (wr (wr (lowW x.n) -
  (1 : Int))) (wu (hdV x.v + (1 : Int)))) else m.ws)) (Wk.with26 (Wk.with14 (Wk.with0 x 40) (wr x.h)) false, true)) (K (Md.mk m.c (seeM (clearM m) (Acc.mk 3 2 x.v (headW (wr (wr (lowW x.n) - (1 : Int)))
  (wu (hdV x.v + (1 : Int)))) 0)) (if casB (clearM m) 2 x.v = true then List.set m.ws (Int.toNat (2 : Int)) (headW (wr (wr (lowW x.n) - (1 : Int))) (wu (hdV x.v + (1 : Int)))) else m.ws)) (Wk.with26
  (Wk.with0 x (wr (wr (Int.tdiv (22 : Int) (10 : Int)) * (10 : Int)))) false, true))) := by kernel_rfl

theorem vc_st24 (K : Md → (Wk × Bool) → Prop) (m : Md) (w : Int) (x : Wk) : aexecF cnd cx ΓH noSpec 300 Tryz.f40 (codeOf Tryz.f40) (.ptr 0 0 :: aWX.enc (w, Wk.with26 (Wk.with0 x 24) false)) (GM.gr m)
  (fun y R => rdG GM cdWB y R K) = ( True ∧ True ∧ True ∧ ((10 : Int) = (0 : Int) → False) ∧ True ∧ True ∧ True ∧ True ∧ True ∧ True ∧ K (Md.mk m.c (seeM (clearM m) (Acc.mk 2 (entryLinkV m.c (wr (x.i -
  (1 : Int)))) (lowW x.v) 0 0)) (if inM (clearM m) (entryLinkV m.c (wr (x.i - (1 : Int)))) = true then List.set m.ws (Int.toNat (entryLinkV m.c (wr (x.i - (1 : Int))))) (lowW x.v) else m.ws)) (Wk.with26
  (Wk.with0 x (wr ((24 : Int) + (1 : Int)))) false, true)) := by kernel_rfl

theorem vc_st46 (K : Md → (Wk × Bool) → Prop) (m : Md) (w : Int) (x : Wk) : aexecF cnd cx ΓH noSpec 300 Tryz.f40 (codeOf Tryz.f40) (.ptr 0 0 :: aWX.enc (w, Wk.with26 (Wk.with0 x 46) false)) (GM.gr m)
  (fun y R => rdG GM cdWB y R K) = ( True ∧ True ∧ True ∧ True ∧ True ∧ True ∧ True ∧ cnd ((entS (rdW (clearM m) (entryV m.c (tkE x.t))) == (1 : Int)) == true) (cnd (entG (rdW (clearM m) (entryV m.c
  (tkE x.t))) == tkG x.t) (Lim (70000 : Nat) (Wk.with26 (Wk.with19 (Wk.with15 (Wk.with0 x 0) (wr (entB (rdW (clearM m) (entryV m.c (tkE x.t))) + (1 : Int)))) (rdW (clearM m) (entryV m.c (tkE x.t))))
  false) ∧ K (Md.with1 m (seeM (clearM m) (Acc.mk 1 (entryV m.c (tkE x.t)) 0 0 0))) (takeBeginW (Wk.with26 (Wk.with19 (Wk.with15 (Wk.with0 x 0) (wr (entB (rdW (clearM m) (entryV m.c (tkE x.t))) + (1 :
  Int)))) (rdW (clearM m) (entryV m.c (tkE x.t)))) false), true)) (Lim (60000 : Nat) (Wk.with26 (Wk.with0 x 0) false) ∧ K (Md.with1 m (seeM (clearM m) (Acc.mk 1 (entryV m.c (tkE x.t)) 0 0 0))) (failW
  (Wk.with26 (Wk.with0 x 0) false, (7 : Int)), true))) (Lim (60000 : Nat) (Wk.with26 (Wk.with0 x 0) false) ∧ K (Md.with1 m (seeM (clearM m) (Acc.mk 1 (entryV m.c (tkE x.t)) 0 0 0))) (failW (Wk.with26
  (Wk.with0 x 0) false, (7 : Int)), true))) := by kernel_rfl

theorem vc_st61 (K : Md → (Wk × Bool) → Prop) (m : Md) (w : Int) (x : Wk) : aexecF cnd cx ΓH noSpec 300 Tryz.f40 (codeOf Tryz.f40) (.ptr 0 0 :: aWX.enc (w, Wk.with26 (Wk.with0 x 61) false)) (GM.gr m)
  (fun y R => rdG GM cdWB y R K) = ( True ∧ True ∧ True ∧ True ∧ True ∧ cnd (decide (wr ((0 : Int) + (↑(List.length x.read) : Int)) < (0 : Int))) False (cnd (decide (wr (wr ((0 : Int) + (↑(List.length
  x.read) : Int)) + (↑(List.length [rdW (clearM m) (wordV m.c (wr (x.c - (1 : Int))) x.j)]) : Int)) < (0 : Int))) False (cnd (decide (wr (wr ((0 : Int) + (↑(List.length x.read) : Int)) + (↑(List.length
  [rdW (clearM m) (wordV m.c (wr (x.c - (1 : Int))) x.j)]) : Int)) < (0 : Int))) False (cnd (decide (wr (wr (wr ((0 : Int) + (↑(List.length x.read) : Int)) + (↑(List.length [rdW (clearM m) (wordV m.c
  (wr (x.c - (1 : Int))) x.j)]) : Int)) - (0 : Int)) > (0 : Int))) ((0 : Int) = (0 : Int) ∧ ((0 : Int) < wr (wr (wr ((0 : Int) + (↑(List.length x.read) : Int)) + (↑(List.length [rdW (clearM m) (wordV
  m.c (wr (x.c - (1 : Int))) x.j)]) : Int)) - (0 : Int)) ∧ (↑(8 : Nat) : Int) * wr (wr (wr ((0 : Int) + (↑(List.length x.read) : Int)) + (↑(List.length [rdW (clearM m) (wordV m.c (wr (x.c - (1 : Int)))
  x.j)]) : Int)) - (0 : Int)) ≤ (140737488355328 : Int) ∧ wr (wr (wr ((0 : Int) + (↑(List.length x.read) : Int)) + (↑(List.length [rdW (clearM m) (wordV m.c (wr (x.c - (1 : Int))) x.j)]) : Int)) - (0 :
  Int)) ≤ (140737488355328 : Int)) ∧ ((0 : Int) ≤ (0 : Int) ∧ (0 : Int) ≤ (↑(List.length (List.replicate (Int.toNat (wr (wr (wr ((0 : Int) + (↑(List.length x.read) : Int)) + (↑(List.length [rdW (clearM
  m) (wordV m.c (wr (x.c - (1 : Int))) x.j)]) : Int)) - (0 : Int)))) (0 : Int))) : Int)) ∧ ((List.length (List.take (0 : Nat) (List.replicate (Int.toNat (wr (wr (wr ((0 : Int) + (↑(List.length x.read) :
  Int)) + (↑(List.length [rdW (clearM m) (wordV m.c (wr (x.c - (1 : Int))) x.j)]) : Int)) - (0 : Int)))) (0 : Int))) + List.length x.read) * (8 : Nat) ≤ (140737488355328 : Nat) ∧ List.length (List.take
  (0 : Nat) (List.replicate (Int.toNat (wr (wr (wr ((0 : Int) + (↑(List.length x.read) : Int)) + (↑(List.length [rdW (clearM m) (wordV m.c (wr (x.c - (1 : Int))) x.j)]) : Int)) - (0 : Int)))) (0 :
  Int))) + List.length x.read ≤ (140737488355328 : Nat)) ∧ ((List.length (List.take (0 : Nat) (List.replicate (Int.toNat (wr (wr (wr ((0 : Int) + (↑(List.length x.read) : Int)) + (↑(List.length [rdW
  (clearM m) (wordV m.c (wr (x.c - (1 : Int))) x.j)]) : Int)) - (0 : Int)))) (0 : Int)) ++ x.read) + List.length [rdW (clearM m) (wordV m.c (wr (x.c - (1 : Int))) x.j)]) * (8 : Nat) ≤ (140737488355328 :
  Nat) ∧ List.length (List.take (0 : Nat) (List.replicate (Int.toNat (wr (wr (wr ((0 : Int) + (↑(List.length x.read) : Int)) + (↑(List.length [rdW (clearM m) (wordV m.c (wr (x.c - (1 : Int))) x.j)]) :
  Int)) - (0 : Int)))) (0 : Int)) ++ x.read) + List.length [rdW (clearM m) (wordV m.c (wr (x.c - (1 : Int))) x.j)] ≤ (140737488355328 : Nat)) ∧ cnd (decide (wr (x.j + (1 : Int)) < m.c.o)) (K (Md.with1 m
  (seeM (clearM m) (Acc.mk 1 (wordV m.c (wr (x.c - (1 : Int))) x.j) 0 0 0))) (Wk.with26 (Wk.with23 (Wk.with22 (Wk.with0 x 61) (wr (x.j + (1 : Int)))) (List.take (0 : Nat) (List.replicate (Int.toNat (wr
  (wr (wr ((0 : Int) + (↑(List.length x.read) : Int)) + (↑(List.length [rdW (clearM m) (wordV m.c (wr (x.c - (1 : Int))) x.j)]) : Int)) - (0 : Int)))) (0 : Int)) ++ x.read ++ [rdW (clearM m) (wordV m.c
  (wr (x.c - (1 : Int))) x.j)])) false, true)) (cnd x.pin (Lim (70000 : Nat) (Wk.with26 (Wk.with23 (Wk.with22 (Wk.with16 (Wk.with15 (Wk.with0 x 61) 0) x.c) (wr (x.j + (1 : Int)))) (List.take (0 : Nat)
  (List.replicate (Int.toNat (wr (wr (wr ((0 : Int) + (↑(List.length x.read) : Int)) + (↑(List.length [rdW (clearM m) (wordV m.c (wr (x.c - (1 : Int))) x.j)]) : Int)) - (0 : Int)))) (0 : Int)) ++ x.read
  ++ [rdW (clearM m) (wordV m.c (wr (x.c - (1 : Int))) x.j)])) false) ∧ K (Md.with1 m (seeM (clearM m) (Acc.mk 1 (wordV m.c (wr (x.c - (1 : Int))) x.j) 0 0 0))) (giveBackW (Wk.with26 (Wk.with23
  (Wk.with22 (Wk.with16 (Wk.with15 (Wk.with0 x 61) 0) x.c) (wr (x.j + (1 : Int)))) (List.take (0 : Nat) (List.replicate (Int.toNat (wr (wr (wr ((0 : Int) + (↑(List.length x.read) : Int)) +
  (↑(List.length [rdW (clearM m) (wordV m.c (wr (x.c - (1 : Int))) x.j)]) : Int)) - (0 : Int)))) (0 : Int)) ++ x.read ++ [rdW (clearM m) (wordV m.c (wr (x.c - (1 : Int))) x.j)])) false), true)) (Lim
  (70000 : Nat) (Wk.with26 (Wk.with23 (Wk.with22 (Wk.with15 (Wk.with0 x 61) 0) (wr (x.j + (1 : Int)))) (List.take (0 : Nat) (List.replicate (Int.toNat (wr (wr (wr ((0 : Int) + (↑(List.length x.read) :
  Int)) + (↑(List.length [rdW (clearM m) (wordV m.c (wr (x.c - (1 : Int))) x.j)]) : Int)) - (0 : Int)))) (0 : Int)) ++ x.read ++ [rdW (clearM m) (wordV m.c (wr (x.c - (1 : Int))) x.j)])) false) ∧ K
  (Md.with1 m (seeM (clearM m) (Acc.mk 1 (wordV m.c (wr (x.c - (1 : Int))) x.j) 0 0 0))) (giveBackW (Wk.with26 (Wk.with23 (Wk.with22 (Wk.with15 (Wk.with0 x 61) 0) (wr (x.j + (1 : Int)))) (List.take (0 :
  Nat) (List.replicate (Int.toNat (wr (wr (wr ((0 : Int) + (↑(List.length x.read) : Int)) + (↑(List.length [rdW (clearM m) (wordV m.c (wr (x.c - (1 : Int))) x.j)]) : Int)) - (0 : Int)))) (0 : Int)) ++
  x.read ++ [rdW (clearM m) (wordV m.c (wr (x.c - (1 : Int))) x.j)])) false), true)))) ((((0 : Nat) + List.length x.read) * (8 : Nat) ≤ (140737488355328 : Nat) ∧ (0 : Nat) + List.length x.read ≤
  (140737488355328 : Nat)) ∧ ((List.length ([] ++ x.read) + List.length [rdW (clearM m) (wordV m.c (wr (x.c - (1 : Int))) x.j)]) * (8 : Nat) ≤ (140737488355328 : Nat) ∧ List.length ([] ++ x.read) +
  List.length [rdW (clearM m) (wordV m.c (wr (x.c - (1 : Int))) x.j)] ≤ (140737488355328 : Nat)) ∧ cnd (decide (wr (x.j + (1 : Int)) < m.c.o)) (K (Md.with1 m (seeM (clearM m) (Acc.mk 1 (wordV m.c (wr
  (x.c - (1 : Int))) x.j) 0 0 0))) (Wk.with26 (Wk.with23 (Wk.with22 (Wk.with0 x 61) (wr (x.j + (1 : Int)))) ([] ++ x.read ++ [rdW (clearM m) (wordV m.c (wr (x.c - (1 : Int))) x.j)])) false, true)) (cnd
  x.pin (Lim (70000 : Nat) (Wk.with26 (Wk.with23 (Wk.with22 (Wk.with16 (Wk.with15 (Wk.with0 x 61) 0) x.c) (wr (x.j + (1 : Int)))) ([] ++ x.read ++ [rdW (clearM m) (wordV m.c (wr (x.c - (1 : Int)))
  x.j)])) false) ∧ K (Md.with1 m (seeM (clearM m) (Acc.mk 1 (wordV m.c (wr (x.c - (1 : Int))) x.j) 0 0 0))) (giveBackW (Wk.with26 (Wk.with23 (Wk.with22 (Wk.with16 (Wk.with15 (Wk.with0 x 61) 0) x.c) (wr
  (x.j + (1 : Int)))) ([] ++ x.read ++ [rdW (clearM m) (wordV m.c (wr (x.c - (1 : Int))) x.j)])) false), true)) (Lim (70000 : Nat) (Wk.with26 (Wk.with23 (Wk.with22 (Wk.with15 (Wk.with0 x 61) 0) (wr (x.j
  + (1 : Int)))) ([] ++ x.read ++ [rdW (clearM m) (wordV m.c (wr (x.c - (1 : Int))) x.j)])) false) ∧ K (Md.with1 m (seeM (clearM m) (Acc.mk 1 (wordV m.c (wr (x.c - (1 : Int))) x.j) 0 0 0))) (giveBackW
  (Wk.with26 (Wk.with23 (Wk.with22 (Wk.with15 (Wk.with0 x 61) 0) (wr (x.j + (1 : Int)))) ([] ++ x.read ++ [rdW (clearM m) (wordV m.c (wr (x.c - (1 : Int))) x.j)])) false), true)))))))) := by kernel_rfl

theorem vc_st15g (K : Md → (Wk × Bool) → Prop) (m : Md) (w : Int) (x : Wk) : aexecF cnd cx ΓH noSpec 300 Tryz.f40 (codeOf Tryz.f40) (.ptr 0 0 :: aWX.enc (w, Wk.with26 (Wk.with0 x 15) true)) (GM.gr m)
  (fun y R => rdG GM cdWB y R K) = ( True ∧ True ∧ True ∧ ((10 : Int) = (0 : Int) → False) ∧ True ∧ True ∧ True ∧ True ∧ True ∧ True ∧ cnd (casB (clearM m) 1 x.v) (Lim (70000 : Nat) (Wk.with26
  (Wk.with13 (Wk.with0 x 0) 0) true) ∧ cnd ((giveBeginW (Wk.with26 (Wk.with13 (Wk.with0 x 0) 0) true)).snd == (1 : Int)) (True ∧ K (Md.mk m.c (seeM (clearM m) (Acc.mk 3 1 x.v (headW (wr (x.k - (1 :
  Int))) (wu (hdV x.v + (1 : Int)))) 0)) (if casB (clearM m) 1 x.v = true then List.set m.ws (Int.toNat (1 : Int)) (headW (wr (x.k - (1 : Int))) (wu (hdV x.v + (1 : Int)))) else m.ws)) (throughW
  (giveBeginW (Wk.with26 (Wk.with13 (Wk.with0 x 0) 0) true)).fst, true)) (cnd ((giveBeginW (Wk.with26 (Wk.with13 (Wk.with0 x 0) 0) true)).snd == (2 : Int)) (True ∧ K (Md.mk m.c (seeM (clearM m) (Acc.mk
  3 1 x.v (headW (wr (x.k - (1 : Int))) (wu (hdV x.v + (1 : Int)))) 0)) (if casB (clearM m) 1 x.v = true then List.set m.ws (Int.toNat (1 : Int)) (headW (wr (x.k - (1 : Int))) (wu (hdV x.v + (1 :
  Int)))) else m.ws)) (throughW (giveBeginW (Wk.with26 (Wk.with13 (Wk.with0 x 0) 0) true)).fst, true)) (K (Md.mk m.c (seeM (clearM m) (Acc.mk 3 1 x.v (headW (wr (x.k - (1 : Int))) (wu (hdV x.v + (1 :
  Int)))) 0)) (if casB (clearM m) 1 x.v = true then List.set m.ws (Int.toNat (1 : Int)) (headW (wr (x.k - (1 : Int))) (wu (hdV x.v + (1 : Int)))) else m.ws)) ((giveBeginW (Wk.with26 (Wk.with13 (Wk.with0
  x 0) 0) true)).fst, true)))) (K (Md.mk m.c (seeM (clearM m) (Acc.mk 3 1 x.v (headW (wr (x.k - (1 : Int))) (wu (hdV x.v + (1 : Int)))) 0)) (if casB (clearM m) 1 x.v = true then List.set m.ws (Int.toNat
  (1 : Int)) (headW (wr (x.k - (1 : Int))) (wu (hdV x.v + (1 : Int)))) else m.ws)) (Wk.with26 (Wk.with0 x (wr (wr (wr (Int.tdiv (15 : Int) (10 : Int)) * (10 : Int)) + (3 : Int)))) true, true))) := by
  kernel_rfl

theorem vc_st39g (K : Md → (Wk × Bool) → Prop) (m : Md) (w : Int) (x : Wk) : aexecF cnd cx ΓH noSpec 300 Tryz.f40 (codeOf Tryz.f40) (.ptr 0 0 :: aWX.enc (w, Wk.with26 (Wk.with0 x 39) true)) (GM.gr m)
  (fun y R => rdG GM cdWB y R K) = ( True ∧ True ∧ True ∧ True ∧ True ∧ True ∧ True ∧ True ∧ True ∧ True ∧ cnd (!slbS (rdW (clearM m) (slabV m.c (homeV m.c (wr (x.k - (1 : Int)))))) == (2 : Int)) (Bear
  (Wk.with26 (Wk.with0 x 0) true) ∧ Bear (Wk.with26 (Wk.with0 x 0) true) ∧ cnd (!(putW (m.c, Wk.with26 (Wk.with0 x 0) true, wr (x.k - (1 : Int)))).snd) (K (Md.with1 m (seeM (clearM m) (Acc.mk 1 (slabV
  m.c (homeV m.c (wr (x.k - (1 : Int))))) 0 0 0))) (Wk.with26 (Wk.with0 x 13) true, true)) (Lim (70000 : Nat) (Wk.with13 (putW (m.c, Wk.with26 (Wk.with0 x 0) true, wr (x.k - (1 : Int)))).fst 0) ∧ cnd
  ((giveBeginW (Wk.with13 (putW (m.c, Wk.with26 (Wk.with0 x 0) true, wr (x.k - (1 : Int)))).fst 0)).snd == (1 : Int)) (True ∧ K (Md.with1 m (seeM (clearM m) (Acc.mk 1 (slabV m.c (homeV m.c (wr (x.k - (1
  : Int))))) 0 0 0))) (throughW (giveBeginW (Wk.with13 (putW (m.c, Wk.with26 (Wk.with0 x 0) true, wr (x.k - (1 : Int)))).fst 0)).fst, true)) (cnd ((giveBeginW (Wk.with13 (putW (m.c, Wk.with26 (Wk.with0
  x 0) true, wr (x.k - (1 : Int)))).fst 0)).snd == (2 : Int)) (True ∧ K (Md.with1 m (seeM (clearM m) (Acc.mk 1 (slabV m.c (homeV m.c (wr (x.k - (1 : Int))))) 0 0 0))) (throughW (giveBeginW (Wk.with13
  (putW (m.c, Wk.with26 (Wk.with0 x 0) true, wr (x.k - (1 : Int)))).fst 0)).fst, true)) (K (Md.with1 m (seeM (clearM m) (Acc.mk 1 (slabV m.c (homeV m.c (wr (x.k - (1 : Int))))) 0 0 0))) ((giveBeginW
  (Wk.with13 (putW (m.c, Wk.with26 (Wk.with0 x 0) true, wr (x.k - (1 : Int)))).fst 0)).fst, true))))) (K (Md.with1 m (seeM (clearM m) (Acc.mk 1 (slabV m.c (homeV m.c (wr (x.k - (1 : Int))))) 0 0 0)))
  (Wk.with26 (Wk.with0 x 30) true, true))) := by kernel_rfl

end Go.Proofs.YtaeepogbgflbpaaGreat
end

/- What one step of an operation computes, shown line by line. No condition. -/
section
set_option linter.unusedVariables false
set_option linter.unusedSimpArgs false
set_option maxRecDepth 100000
set_option maxHeartbeats 1000000
namespace Go.Proofs.YtaeepogbgflbpaaGreat
open Go Go.Ax

def wres (r : Md × Wk) : Md × (Wk × Bool) := (r.1, r.2, true)
theorem giveBack_give {x : Wk} (h : x.give = true) : giveBackW x = (if (giveBeginW x).2 = 1 then throughW (giveBeginW x).1 else (giveBeginW x).1) := by
  have hx : ({ x with give := true } : Wk) = x := by cases x; simp_all
  by_cases hh : x.hold = []
  · simp only [giveBackW, giveBeginW, hh, if_true]; rfl
  · simp only [giveBackW, giveBeginW, hh, if_false, hx]; simp
theorem giveBegin_not2 (x : Wk) : (giveBeginW x).2 ≠ 2 := by
  unfold giveBeginW; split <;> simp
theorem lim_set (n : Nat) (x : Wk) (i t : Int) (h1 : x.rack.length ≤ n) (h2 : x.read.length ≤ n) (h3 : x.hold.length + x.l0.length + x.l1.length + x.l2.length ≤ n) : Lim n (setBag (holdW (x, bagL x i)) i t []) := by
  unfold setBag bagL holdW
  split
  · refine ⟨h1, h2, ?_⟩; simp; omega
  · split
    · refine ⟨h1, h2, ?_⟩; simp; omega
    · refine ⟨h1, h2, ?_⟩; simp; omega
theorem lim_now {n : Nat} {x : Wk} (h : Lim n x) : Lim n (nowX x) := by
  unfold nowX
  split
  · exact h
  · exact lim_set n x _ _ h.rack h.read h.sum
theorem lim_ripe1 {n : Nat} {x : Wk} (h : Lim n x) (i ep : Int) : Lim n (ripe1 x i ep) := by
  unfold ripe1
  split
  · exact lim_set n x _ _ h.rack h.read h.sum
  · exact h
theorem lim_ripe {n : Nat} {x : Wk} (h : Lim n x) (ep : Int) : Lim n (ripeW (x, ep)) := lim_ripe1 (lim_ripe1 (lim_ripe1 h 0 ep) 1 ep) 2 ep
theorem lim_add (n : Nat) (x : Wk) (i t b : Int) (h : Lim n x) : Lim (n + 1) (setBag x i t (bagL x i ++ [b])) := by
  have h1 := h.rack
  have h2 := h.read
  have h3 := h.sum
  unfold setBag bagL
  split
  · refine ⟨?_, ?_, ?_⟩ <;> simp <;> omega
  · split
    · refine ⟨?_, ?_, ?_⟩ <;> simp <;> omega
    · refine ⟨?_, ?_, ?_⟩ <;> simp <;> omega
theorem lim_bagPut {n : Nat} {x : Wk} (h : Lim n x) (c : Cfg) (b : Int) : Lim (n + 1) (bagPut (c, x, b)).1 := by
  unfold bagPut
  split
  · exact lim_add n (nowX x) _ _ b (lim_now h)
  · exact (lim_now h).mono (by omega)
theorem lim_putW {n : Nat} {x : Wk} (h : Lim n x) (c : Cfg) (b : Int) : Lim (n + 1) (putW (c, x, b)).1 := by
  have h1 := h.rack
  have h2 := h.read
  have h3 := h.sum
  unfold putW
  split
  · exact h.mono (by omega)
  · refine ⟨?_, ?_, ?_⟩ <;> simp <;> omega
theorem lim_same {n : Nat} {x y : Wk} (h : Lim n x) (h1 : y.rack = x.rack) (h2 : y.read = x.read) (h3 : y.hold = x.hold) (h4 : y.l0 = x.l0) (h5 : y.l1 = x.l1) (h6 : y.l2 = x.l2) : Lim n y := ⟨by rw [h1]; exact h.rack, by rw [h2]; exact h.read, by rw [h3, h4, h5, h6]; exact h.sum⟩
/-- What one line of a step comes to. -/
def PW (m : Md) (w : Int) (x : Wk) (l : Int) (g : Bool) : Prop := aexecF cnd cx ΓH noSpec 300 Tryz.f40 (codeOf Tryz.f40) (.ptr 0 0 :: aWX.enc (w, (Wk.with26 (Wk.with0 x l) g))) (GM.gr m) (fun y R => rdG GM cdWB y R (fun m' b => (m', b) = wres (workS m w (Wk.with26 (Wk.with0 x l) g))))
theorem wsA0 (m : Md) (w : Int) (x : Wk) (hl : Lim 50000 x) (hb : 1 ≤ m.c.b ∧ m.c.b ≤ 16) : PW m w x 1 false ∧ PW m w x 2 false ∧ PW m w x 3 false ∧ PW m w x 90 false ∧ PW m w x 70 false ∧ PW m w x 71 false ∧ PW m w x 72 false ∧ PW m w x 36 false ∧ PW m w x 37 false ∧ PW m w x 10 false ∧ PW m w x 11 false := by
  have q1 := hl.rack
  have q2 := hl.read
  have q3 := hl.sum
  refine ⟨Eq.mpr (vc_st1 _ m w x) ?_, Eq.mpr (vc_st2 _ m w x) ?_, Eq.mpr (vc_st3 _ m w x) ?_, Eq.mpr (vc_st90 _ m w x) ?_, Eq.mpr (vc_st70 _ m w x) ?_, Eq.mpr (vc_st71 _ m w x) ?_, Eq.mpr (vc_st72 _ m w x) ?_, Eq.mpr (vc_st36 _ m w x) ?_, Eq.mpr (vc_st37 _ m w x) ?_, Eq.mpr (vc_st10 _ m w x) ?_, Eq.mpr (vc_st11 _ m w x) ?_⟩
  all_goals first
    | rw [show workS m w (Wk.with26 (Wk.with0 x 1) false) = s1 m (Wk.with26 (Wk.with0 x 1) false) from rfl]
    | rw [show workS m w (Wk.with26 (Wk.with0 x 2) false) = s2 m w (Wk.with26 (Wk.with0 x 2) false) from rfl]
    | rw [show workS m w (Wk.with26 (Wk.with0 x 3) false) = s3 m (Wk.with26 (Wk.with0 x 3) false) from rfl]
    | rw [show workS m w (Wk.with26 (Wk.with0 x 90) false) = s90 m w (Wk.with26 (Wk.with0 x 90) false) from rfl]
    | rw [show workS m w (Wk.with26 (Wk.with0 x 70) false) = s70 m (Wk.with26 (Wk.with0 x 70) false) from rfl]
    | rw [show workS m w (Wk.with26 (Wk.with0 x 71) false) = s71 m (Wk.with26 (Wk.with0 x 71) false) from rfl]
    | rw [show workS m w (Wk.with26 (Wk.with0 x 72) false) = s72 m (Wk.with26 (Wk.with0 x 72) false) from rfl]
    | rw [show workS m w (Wk.with26 (Wk.with0 x 36) false) = s36 m (Wk.with26 (Wk.with0 x 36) false) from rfl]
    | rw [show workS m w (Wk.with26 (Wk.with0 x 37) false) = s37 m (Wk.with26 (Wk.with0 x 37) false) from rfl]
    | rw [show workS m w (Wk.with26 (Wk.with0 x 10) false) = s10 m (Wk.with26 (Wk.with0 x 10) false) from rfl]
    | rw [show workS m w (Wk.with26 (Wk.with0 x 11) false) = s11 m (Wk.with26 (Wk.with0 x 11) false) from rfl]
  all_goals repeat' first | exact trivial | refine cnd_intro (fun _ => ?_) (fun _ => ?_) | refine And.intro ?_ ?_
  all_goals first
    | exact Lim.mono (n := 50000) ⟨q1, q2, q3⟩ (by omega)
    | exact Lim.easy (n := 50000) ⟨q1, q2, q3⟩ (by omega)
    | exact Lim.bear (n := 50000) ⟨q1, q2, q3⟩ (by omega)
    | exact Lim.mono (n := 50000) (lim_now ⟨q1, q2, q3⟩) (by omega)
    | exact Lim.mono (n := 50000) (lim_ripe ⟨q1, q2, q3⟩ _) (by omega)
    | exact Lim.mono (n := 50001) (lim_same (lim_bagPut (n := 50000) ⟨q1, q2, q3⟩ _ _) rfl rfl rfl rfl rfl rfl) (by omega)
    | exact Lim.mono (n := 50001) (lim_same (lim_putW (n := 50000) ⟨q1, q2, q3⟩ _ _) rfl rfl rfl rfl rfl rfl) (by omega)
    | exact (by decide)
    | exact hb.1
    | exact hb.2
    | exact Nat.le_trans (by omega : x.hold.length ≤ 50000) (by omega)
    | (refine Prod.ext rfl (Prod.ext ?_ rfl)
       simp only [beq_iff_eq, bne_iff_ne, beq_eq_false_iff_ne, bne_eq_false_iff_eq, decide_eq_true_eq, decide_eq_false_iff_not, beq_true, beq_false, Bool.not_eq_true', Bool.not_eq_false', ge_iff_le, ne_eq, Decidable.not_not] at *
       simp_all [wres, s1, s10, s11, s2, s3, s36, s37, s70, s71, s72, s90, rd0, casOk, upHead, slabAt, tkAt, liveB, readX, killW, killI, putX, roomL,  hdV, addM]
       try first | rfl | omega)
theorem wsA1 (m : Md) (w : Int) (x : Wk) (hl : Lim 50000 x) (hb : 1 ≤ m.c.b ∧ m.c.b ≤ 16) : PW m w x 12 false ∧ PW m w x 31 false ∧ PW m w x 32 false ∧ PW m w x 33 false ∧ PW m w x 34 false ∧ PW m w x 35 false ∧ PW m w x 38 false ∧ PW m w x 50 false ∧ PW m w x 20 false ∧ PW m w x 21 false ∧ PW m w x 22 false := by
  have q1 := hl.rack
  have q2 := hl.read
  have q3 := hl.sum
  refine ⟨Eq.mpr (vc_st12 _ m w x) ?_, Eq.mpr (vc_st31 _ m w x) ?_, Eq.mpr (vc_st32 _ m w x) ?_, Eq.mpr (vc_st33 _ m w x) ?_, Eq.mpr (vc_st34 _ m w x) ?_, Eq.mpr (vc_st35 _ m w x) ?_, Eq.mpr (vc_st38 _ m w x) ?_, Eq.mpr (vc_st50 _ m w x) ?_, Eq.mpr (vc_st20 _ m w x) ?_, Eq.mpr (vc_st21 _ m w x) ?_, Eq.mpr (vc_st22 _ m w x) ?_⟩
  all_goals first
    | rw [show workS m w (Wk.with26 (Wk.with0 x 12) false) = s12 m (Wk.with26 (Wk.with0 x 12) false) from rfl]
    | rw [show workS m w (Wk.with26 (Wk.with0 x 31) false) = s31 m (Wk.with26 (Wk.with0 x 31) false) from rfl]
    | rw [show workS m w (Wk.with26 (Wk.with0 x 32) false) = s32 m (Wk.with26 (Wk.with0 x 32) false) from rfl]
    | rw [show workS m w (Wk.with26 (Wk.with0 x 33) false) = s33 m (Wk.with26 (Wk.with0 x 33) false) from rfl]
    | rw [show workS m w (Wk.with26 (Wk.with0 x 34) false) = s34 m (Wk.with26 (Wk.with0 x 34) false) from rfl]
    | rw [show workS m w (Wk.with26 (Wk.with0 x 35) false) = s35 m (Wk.with26 (Wk.with0 x 35) false) from rfl]
    | rw [show workS m w (Wk.with26 (Wk.with0 x 38) false) = s38 m (Wk.with26 (Wk.with0 x 38) false) from rfl]
    | rw [show workS m w (Wk.with26 (Wk.with0 x 50) false) = s50 m (Wk.with26 (Wk.with0 x 50) false) from rfl]
    | rw [show workS m w (Wk.with26 (Wk.with0 x 20) false) = s20 m (Wk.with26 (Wk.with0 x 20) false) from rfl]
    | rw [show workS m w (Wk.with26 (Wk.with0 x 21) false) = s21 m (Wk.with26 (Wk.with0 x 21) false) from rfl]
    | rw [show workS m w (Wk.with26 (Wk.with0 x 22) false) = s22 m (Wk.with26 (Wk.with0 x 22) false) from rfl]
  all_goals repeat' first | exact trivial | refine cnd_intro (fun _ => ?_) (fun _ => ?_) | refine And.intro ?_ ?_
  all_goals first
    | exact Lim.mono (n := 50000) ⟨q1, q2, q3⟩ (by omega)
    | exact Lim.easy (n := 50000) ⟨q1, q2, q3⟩ (by omega)
    | exact Lim.bear (n := 50000) ⟨q1, q2, q3⟩ (by omega)
    | exact Lim.mono (n := 50000) (lim_now ⟨q1, q2, q3⟩) (by omega)
    | exact Lim.mono (n := 50000) (lim_ripe ⟨q1, q2, q3⟩ _) (by omega)
    | exact Lim.mono (n := 50001) (lim_same (lim_bagPut (n := 50000) ⟨q1, q2, q3⟩ _ _) rfl rfl rfl rfl rfl rfl) (by omega)
    | exact Lim.mono (n := 50001) (lim_same (lim_putW (n := 50000) ⟨q1, q2, q3⟩ _ _) rfl rfl rfl rfl rfl rfl) (by omega)
    | exact (by decide)
    | exact hb.1
    | exact hb.2
    | exact Nat.le_trans (by omega : x.hold.length ≤ 50000) (by omega)
    | (refine Prod.ext rfl (Prod.ext ?_ rfl)
       simp only [beq_iff_eq, bne_iff_ne, beq_eq_false_iff_ne, bne_eq_false_iff_eq, decide_eq_true_eq, decide_eq_false_iff_not, beq_true, beq_false, Bool.not_eq_true', Bool.not_eq_false', ge_iff_le, ne_eq, Decidable.not_not] at *
       simp_all [wres, s12, s20, s21, s22, s31, s32, s33, s34, s35, s38, s50, rd0, casOk, upHead, slabAt, tkAt, liveB, readX, killW, killI, putX, roomL,  hdV, addM]
       try first | rfl | omega)
theorem wsA2 (m : Md) (w : Int) (x : Wk) (hl : Lim 50000 x) (hb : 1 ≤ m.c.b ∧ m.c.b ≤ 16) : PW m w x 40 false ∧ PW m w x 41 false ∧ PW m w x 23 false ∧ PW m w x 24 false ∧ PW m w x 25 false ∧ PW m w x 46 false ∧ PW m w x 60 false := by
  have q1 := hl.rack
  have q2 := hl.read
  have q3 := hl.sum
  refine ⟨Eq.mpr (vc_st40 _ m w x) ?_, Eq.mpr (vc_st41 _ m w x) ?_, Eq.mpr (vc_st23 _ m w x) ?_, Eq.mpr (vc_st24 _ m w x) ?_, Eq.mpr (vc_st25 _ m w x) ?_, Eq.mpr (vc_st46 _ m w x) ?_, Eq.mpr (vc_st60 _ m w x) ?_⟩
  all_goals first
    | rw [show workS m w (Wk.with26 (Wk.with0 x 40) false) = s40 m (Wk.with26 (Wk.with0 x 40) false) from rfl]
    | rw [show workS m w (Wk.with26 (Wk.with0 x 41) false) = s41 m (Wk.with26 (Wk.with0 x 41) false) from rfl]
    | rw [show workS m w (Wk.with26 (Wk.with0 x 23) false) = s23 m (Wk.with26 (Wk.with0 x 23) false) from rfl]
    | rw [show workS m w (Wk.with26 (Wk.with0 x 24) false) = s24 m (Wk.with26 (Wk.with0 x 24) false) from rfl]
    | rw [show workS m w (Wk.with26 (Wk.with0 x 25) false) = s25 m (Wk.with26 (Wk.with0 x 25) false) from rfl]
    | rw [show workS m w (Wk.with26 (Wk.with0 x 46) false) = s46 m (Wk.with26 (Wk.with0 x 46) false) from rfl]
    | rw [show workS m w (Wk.with26 (Wk.with0 x 60) false) = s60 m (Wk.with26 (Wk.with0 x 60) false) from rfl]
  all_goals repeat' first | exact trivial | refine cnd_intro (fun _ => ?_) (fun _ => ?_) | refine And.intro ?_ ?_
  all_goals first
    | exact Lim.mono (n := 50000) ⟨q1, q2, q3⟩ (by omega)
    | exact Lim.easy (n := 50000) ⟨q1, q2, q3⟩ (by omega)
    | exact Lim.bear (n := 50000) ⟨q1, q2, q3⟩ (by omega)
    | exact Lim.mono (n := 50000) (lim_now ⟨q1, q2, q3⟩) (by omega)
    | exact Lim.mono (n := 50000) (lim_ripe ⟨q1, q2, q3⟩ _) (by omega)
    | exact Lim.mono (n := 50001) (lim_same (lim_bagPut (n := 50000) ⟨q1, q2, q3⟩ _ _) rfl rfl rfl rfl rfl rfl) (by omega)
    | exact Lim.mono (n := 50001) (lim_same (lim_putW (n := 50000) ⟨q1, q2, q3⟩ _ _) rfl rfl rfl rfl rfl rfl) (by omega)
    | exact (by decide)
    | exact hb.1
    | exact hb.2
    | exact Nat.le_trans (by omega : x.hold.length ≤ 50000) (by omega)
    | (refine Prod.ext rfl (Prod.ext ?_ rfl)
       simp only [beq_iff_eq, bne_iff_ne, beq_eq_false_iff_ne, bne_eq_false_iff_eq, decide_eq_true_eq, decide_eq_false_iff_not, beq_true, beq_false, Bool.not_eq_true', Bool.not_eq_false', ge_iff_le, ne_eq, Decidable.not_not] at *
       simp_all [wres, s23, s24, s25, s40, s41, s46, s60, rd0, casOk, upHead, slabAt, tkAt, liveB, readX, killW, killI, putX, roomL,  hdV, addM]
       try first | rfl | omega)
theorem wsA3 (m : Md) (w : Int) (x : Wk) (hl : Lim 50000 x) (hb : 1 ≤ m.c.b ∧ m.c.b ≤ 16) : PW m w x 13 true ∧ PW m w x 14 true ∧ PW m w x 15 true ∧ PW m w x 31 true ∧ PW m w x 32 true := by
  have q1 := hl.rack
  have q2 := hl.read
  have q3 := hl.sum
  refine ⟨Eq.mpr (vc_st13g _ m w x) ?_, Eq.mpr (vc_st14g _ m w x) ?_, Eq.mpr (vc_st15g _ m w x) ?_, Eq.mpr (vc_st31g _ m w x) ?_, Eq.mpr (vc_st32g _ m w x) ?_⟩
  all_goals first
    | rw [show workS m w (Wk.with26 (Wk.with0 x 13) true) = s13 m (Wk.with26 (Wk.with0 x 13) true) from rfl]
    | rw [show workS m w (Wk.with26 (Wk.with0 x 14) true) = s14 m (Wk.with26 (Wk.with0 x 14) true) from rfl]
    | rw [show workS m w (Wk.with26 (Wk.with0 x 15) true) = s15 m (Wk.with26 (Wk.with0 x 15) true) from rfl]
    | rw [show workS m w (Wk.with26 (Wk.with0 x 31) true) = s31 m (Wk.with26 (Wk.with0 x 31) true) from rfl]
    | rw [show workS m w (Wk.with26 (Wk.with0 x 32) true) = s32 m (Wk.with26 (Wk.with0 x 32) true) from rfl]
  all_goals repeat' first | exact trivial | refine cnd_intro (fun _ => ?_) (fun _ => ?_) | refine And.intro ?_ ?_
  all_goals first
    | exact Lim.mono (n := 50000) ⟨q1, q2, q3⟩ (by omega)
    | exact Lim.easy (n := 50000) ⟨q1, q2, q3⟩ (by omega)
    | exact Lim.bear (n := 50000) ⟨q1, q2, q3⟩ (by omega)
    | exact Lim.mono (n := 50000) (lim_now ⟨q1, q2, q3⟩) (by omega)
    | exact Lim.mono (n := 50000) (lim_ripe ⟨q1, q2, q3⟩ _) (by omega)
    | exact Lim.mono (n := 50001) (lim_same (lim_bagPut (n := 50000) ⟨q1, q2, q3⟩ _ _) rfl rfl rfl rfl rfl rfl) (by omega)
    | exact Lim.mono (n := 50001) (lim_same (lim_putW (n := 50000) ⟨q1, q2, q3⟩ _ _) rfl rfl rfl rfl rfl rfl) (by omega)
    | exact (by decide)
    | exact hb.1
    | exact hb.2
    | exact Nat.le_trans (by omega : x.hold.length ≤ 50000) (by omega)
    | (refine Prod.ext rfl (Prod.ext ?_ rfl)
       simp only [beq_iff_eq, bne_iff_ne, beq_eq_false_iff_ne, bne_eq_false_iff_eq, decide_eq_true_eq, decide_eq_false_iff_not, beq_true, beq_false, Bool.not_eq_true', Bool.not_eq_false', ge_iff_le, ne_eq, Decidable.not_not] at *
       simp_all [wres, s13, s14, s15, s31, s32, rd0, casOk, upHead, slabAt, tkAt, liveB, readX, killW, killI, putX, roomL, giveBack_give, giveBegin_not2, hdV, addM]
       try first | rfl | omega)
theorem ws73 (m : Md) (w : Int) (x : Wk) (hl : Lim 50000 x) (hb : 1 ≤ m.c.b ∧ m.c.b ≤ 16) : aexecF cnd cx ΓH noSpec 300 Tryz.f40 (codeOf Tryz.f40) (.ptr 0 0 :: aWX.enc (w, (Wk.with26 (Wk.with0 x 73) false))) (GM.gr m) (fun y R => rdG GM cdWB y R (fun m' b => (m', b) = wres (workS m w (Wk.with26 (Wk.with0 x 73) false)))) := by
  refine Eq.mpr (vc_st73 _ m w x) ?_
  rw [show workS m w (Wk.with26 (Wk.with0 x 73) false) = s73 m (Wk.with26 (Wk.with0 x 73) false) from rfl]
  have q1 := hl.rack
  have q2 := hl.read
  have q3 := hl.sum
  repeat' first | exact trivial | refine And.intro ?_ ?_
  · exact Lim.easy (n := 50000) ⟨q1, q2, q3⟩ (by omega)
  · exact (lim_ripe (n := 50000) (x := (Wk.with26 (Wk.with0 x 73) false)) ⟨q1, q2, q3⟩ _).mono (by omega)
  · rfl
theorem ws30 (m : Md) (w : Int) (x : Wk) (hl : Lim 50000 x) (hb : 1 ≤ m.c.b ∧ m.c.b ≤ 16) : aexecF cnd cx ΓH noSpec 300 Tryz.f40 (codeOf Tryz.f40) (.ptr 0 0 :: aWX.enc (w, (Wk.with26 (Wk.with0 x 30) false))) (GM.gr m) (fun y R => rdG GM cdWB y R (fun m' b => (m', b) = wres (workS m w (Wk.with26 (Wk.with0 x 30) false)))) := by
  refine Eq.mpr (vc_st30 _ m w x) ?_
  rw [show workS m w (Wk.with26 (Wk.with0 x 30) false) = s30 m (Wk.with26 (Wk.with0 x 30) false) from rfl]
  have q1 := hl.rack
  have q2 := hl.read
  have q3 := hl.sum
  repeat' first | refine And.intro trivial ?_ | refine cnd_intro (fun c => ?_) (fun c => ⟨?_, ?_⟩)
  · exact Prod.ext rfl (Prod.ext (if_pos (show slbP (wu ((addM (clearM m) (slabAt m x.k) 16).2 + 16)) = m.c.b from beq_iff_eq.1 c)).symm rfl)
  · exact Lim.mono (n := 50000) ⟨q1, q2, q3⟩ (by omega)
  · exact Prod.ext rfl (Prod.ext (if_neg (show ¬ slbP (wu ((addM (clearM m) (slabAt m x.k) 16).2 + 16)) = m.c.b from beq_eq_false_iff_ne.1 c)).symm rfl)
theorem ws42 (m : Md) (w : Int) (x : Wk) (hl : Lim 50000 x) (hb : 1 ≤ m.c.b ∧ m.c.b ≤ 16) : aexecF cnd cx ΓH noSpec 300 Tryz.f40 (codeOf Tryz.f40) (.ptr 0 0 :: aWX.enc (w, (Wk.with26 (Wk.with0 x 42) false))) (GM.gr m) (fun y R => rdG GM cdWB y R (fun m' b => (m', b) = wres (workS m w (Wk.with26 (Wk.with0 x 42) false)))) := by
  refine Eq.mpr (vc_st42 _ m w x) ?_
  rw [show workS m w (Wk.with26 (Wk.with0 x 42) false) = s42 m (Wk.with26 (Wk.with0 x 42) false) from rfl]
  have q1 := hl.rack
  have q2 := hl.read
  have q3 := hl.sum
  repeat' first | refine And.intro trivial ?_ | refine cnd_intro (fun c => ?_) (fun c => ?_)
  · rename_i c0
    have hlv : liveB (rd0 m (tkAt m x)) x = true := by
      simp only [liveB, decide_eq_true_eq]; exact ⟨by simpa [rd0, tkAt] using c0, by simpa [rd0, tkAt] using c⟩
    have e1 : (wres (s42 m (Wk.with26 (Wk.with0 x 42) false))).2.1 = roomL m (Wk.with26 (Wk.with19 (Wk.with15 (Wk.with0 x 0) (wr (entB (rdW (clearM m) (entryV m.c (tkE x.t))) + 1))) (rdW (clearM m) (entryV m.c (tkE x.t)))) false) 43 := if_pos hlv
    refine ⟨Lim.easy (n := 50000) ⟨q1, q2, q3⟩ (by omega), Lim.easy (n := 50000) ⟨q1, q2, q3⟩ (by omega), ?_⟩
    refine cnd_intro (fun d => ⟨?_, ?_⟩) (fun d => ?_)
    · exact Lim.mono (n := 50000) (lim_now (n := 50000) (x := (Wk.with26 (Wk.with19 (Wk.with15 (Wk.with0 x 0) (wr (entB (rdW (clearM m) (entryV m.c (tkE x.t))) + 1))) (rdW (clearM m) (entryV m.c (tkE x.t)))) false)) ⟨q1, q2, q3⟩) (by omega)
    · have d' : ¬ ((bagL (nowX (Wk.with26 (Wk.with19 (Wk.with15 (Wk.with0 x 0) (wr (entB (rdW (clearM m) (entryV m.c (tkE x.t))) + 1))) (rdW (clearM m) (entryV m.c (tkE x.t)))) false)) (idxW (Wk.with26 (Wk.with19 (Wk.with15 (Wk.with0 x 0) (wr (entB (rdW (clearM m) (entryV m.c (tkE x.t))) + 1))) (rdW (clearM m) (entryV m.c (tkE x.t)))) false))).length : Int) < m.c.a := by simpa using d
      exact Prod.ext rfl (Prod.ext (e1.trans (if_neg d')).symm rfl)
    · have d' : ((bagL (nowX (Wk.with26 (Wk.with19 (Wk.with15 (Wk.with0 x 0) (wr (entB (rdW (clearM m) (entryV m.c (tkE x.t))) + 1))) (rdW (clearM m) (entryV m.c (tkE x.t)))) false)) (idxW (Wk.with26 (Wk.with19 (Wk.with15 (Wk.with0 x 0) (wr (entB (rdW (clearM m) (entryV m.c (tkE x.t))) + 1))) (rdW (clearM m) (entryV m.c (tkE x.t)))) false))).length : Int) < m.c.a := by simpa using d
      exact Prod.ext rfl (Prod.ext (e1.trans (if_pos d')).symm rfl)
  · rename_i c0
    have hlv : ¬ liveB (rd0 m (tkAt m x)) x = true := by
      simp only [liveB, decide_eq_true_eq]; intro h; exact (beq_eq_false_iff_ne.1 c) h.2
    exact ⟨Lim.mono (n := 50000) ⟨q1, q2, q3⟩ (by omega), Prod.ext rfl (Prod.ext (if_neg hlv).symm rfl)⟩
  · have hlv : ¬ liveB (rd0 m (tkAt m x)) x = true := by
      simp only [liveB, decide_eq_true_eq]; intro h; exact (show ¬ entS (rdW (clearM m) (entryV m.c (tkE x.t))) = 1 from by simpa using c) h.1
    exact ⟨Lim.mono (n := 50000) ⟨q1, q2, q3⟩ (by omega), Prod.ext rfl (Prod.ext (if_neg hlv).symm rfl)⟩
theorem ws43 (m : Md) (w : Int) (x : Wk) (hl : Lim 50000 x) (hb : 1 ≤ m.c.b ∧ m.c.b ≤ 16) : aexecF cnd cx ΓH noSpec 300 Tryz.f40 (codeOf Tryz.f40) (.ptr 0 0 :: aWX.enc (w, (Wk.with26 (Wk.with0 x 43) false))) (GM.gr m) (fun y R => rdG GM cdWB y R (fun m' b => (m', b) = wres (workS m w (Wk.with26 (Wk.with0 x 43) false)))) := by
  refine Eq.mpr (vc_st43 _ m w x) ?_
  rw [show workS m w (Wk.with26 (Wk.with0 x 43) false) = s43 m (Wk.with26 (Wk.with0 x 43) false) from rfl]
  have q1 := hl.rack
  have q2 := hl.read
  have q3 := hl.sum
  repeat' first | refine And.intro trivial ?_
  refine cnd_intro (fun b => ?_) (fun b => ?_)
  · repeat' first | refine And.intro trivial ?_
    have b : m.c.l ≤ tkG x.t := by simpa using b
    have kw : killW m x = entryW (tkG x.t) (-1) 2 := if_pos b
    have ki : killI m x = 0 := if_pos b
    refine cnd_intro (fun c => ?_) (fun c => ?_)
    · have c' : casOk m (tkAt m x) x.v = true := c
      have e1 : (wres (s43 m (Wk.with26 (Wk.with0 x 43) false))).2.1 = if (putX m (Wk.with26 (Wk.with14 (Wk.with0 x 0) (killI m x)) false) x.c).i = 0 then giveBackW (Wk.with15 (putX m (Wk.with26 (Wk.with14 (Wk.with0 x 0) (killI m x)) false) x.c) 0) else Wk.with15 (Wk.with0 (putX m (Wk.with26 (Wk.with14 (Wk.with0 x 0) (killI m x)) false) x.c) 23) 0 := if_pos c'
      rw [ki] at e1
      have e0 : (wres (s43 m (Wk.with26 (Wk.with0 x 43) false))).1 = cas m (tkAt m x) x.v (killW m x) := rfl
      rw [kw] at e0
      refine ⟨Lim.easy (n := 50000) ⟨q1, q2, q3⟩ (by omega), Lim.easy (n := 50000) ⟨q1, q2, q3⟩ (by omega), ?_⟩
      refine cnd_intro (fun d => ?_) (fun d => ⟨?_, ?_⟩)
      · have d' : ¬ (putX m (Wk.with26 (Wk.with14 (Wk.with0 x 0) 0) false) x.c).i = 0 := by simpa [putX] using d
        exact Prod.ext e0.symm (Prod.ext (e1.trans (if_neg d')).symm rfl)
      · exact Lim.mono (n := 50001) (lim_same (lim_bagPut (n := 50000) (x := (Wk.with26 (Wk.with14 (Wk.with0 x 0) 0) false)) ⟨q1, q2, q3⟩ m.c (wr (x.c - 1))) rfl rfl rfl rfl rfl rfl) (by omega)
      · have d' : (putX m (Wk.with26 (Wk.with14 (Wk.with0 x 0) 0) false) x.c).i = 0 := by simpa [putX] using d
        exact Prod.ext e0.symm (Prod.ext (e1.trans (if_pos d')).symm rfl)
    · have c' : ¬ casOk m (tkAt m x) x.v = true := fun h => by rw [show casOk m (tkAt m x) x.v = false from c] at h; cases h
      have e0 : (wres (s43 m (Wk.with26 (Wk.with0 x 43) false))).1 = cas m (tkAt m x) x.v (killW m x) := rfl
      rw [kw] at e0
      exact Prod.ext e0.symm (Prod.ext (if_neg c').symm rfl)
  · repeat' first | refine And.intro trivial ?_
    have b : ¬ m.c.l ≤ tkG x.t := by simpa using b
    have kw : killW m x = entryW (wu (tkG x.t + 1)) (-1) 0 := if_neg b
    have ki : killI m x = (wr (tkE x.t + 1)) := if_neg b
    refine cnd_intro (fun c => ?_) (fun c => ?_)
    · have c' : casOk m (tkAt m x) x.v = true := c
      have e1 : (wres (s43 m (Wk.with26 (Wk.with0 x 43) false))).2.1 = if (putX m (Wk.with26 (Wk.with14 (Wk.with0 x 0) (killI m x)) false) x.c).i = 0 then giveBackW (Wk.with15 (putX m (Wk.with26 (Wk.with14 (Wk.with0 x 0) (killI m x)) false) x.c) 0) else Wk.with15 (Wk.with0 (putX m (Wk.with26 (Wk.with14 (Wk.with0 x 0) (killI m x)) false) x.c) 23) 0 := if_pos c'
      rw [ki] at e1
      have e0 : (wres (s43 m (Wk.with26 (Wk.with0 x 43) false))).1 = cas m (tkAt m x) x.v (killW m x) := rfl
      rw [kw] at e0
      refine ⟨Lim.easy (n := 50000) ⟨q1, q2, q3⟩ (by omega), Lim.easy (n := 50000) ⟨q1, q2, q3⟩ (by omega), ?_⟩
      refine cnd_intro (fun d => ?_) (fun d => ⟨?_, ?_⟩)
      · have d' : ¬ (putX m (Wk.with26 (Wk.with14 (Wk.with0 x 0) (wr (tkE x.t + 1))) false) x.c).i = 0 := by simpa [putX] using d
        exact Prod.ext e0.symm (Prod.ext (e1.trans (if_neg d')).symm rfl)
      · exact Lim.mono (n := 50001) (lim_same (lim_bagPut (n := 50000) (x := (Wk.with26 (Wk.with14 (Wk.with0 x 0) (wr (tkE x.t + 1))) false)) ⟨q1, q2, q3⟩ m.c (wr (x.c - 1))) rfl rfl rfl rfl rfl rfl) (by omega)
      · have d' : (putX m (Wk.with26 (Wk.with14 (Wk.with0 x 0) (wr (tkE x.t + 1))) false) x.c).i = 0 := by simpa [putX] using d
        exact Prod.ext e0.symm (Prod.ext (e1.trans (if_pos d')).symm rfl)
    · have c' : ¬ casOk m (tkAt m x) x.v = true := fun h => by rw [show casOk m (tkAt m x) x.v = false from c] at h; cases h
      have e0 : (wres (s43 m (Wk.with26 (Wk.with0 x 43) false))).1 = cas m (tkAt m x) x.v (killW m x) := rfl
      rw [kw] at e0
      exact Prod.ext e0.symm (Prod.ext (if_neg c').symm rfl)
theorem ws44 (m : Md) (w : Int) (x : Wk) (hl : Lim 50000 x) (hb : 1 ≤ m.c.b ∧ m.c.b ≤ 16) : aexecF cnd cx ΓH noSpec 300 Tryz.f40 (codeOf Tryz.f40) (.ptr 0 0 :: aWX.enc (w, (Wk.with26 (Wk.with0 x 44) false))) (GM.gr m) (fun y R => rdG GM cdWB y R (fun m' b => (m', b) = wres (workS m w (Wk.with26 (Wk.with0 x 44) false)))) := by
  refine Eq.mpr (vc_st44 _ m w x) ?_
  rw [show workS m w (Wk.with26 (Wk.with0 x 44) false) = s44 m (Wk.with26 (Wk.with0 x 44) false) from rfl]
  have q1 := hl.rack
  have q2 := hl.read
  have q3 := hl.sum
  repeat' first | refine And.intro trivial ?_ | refine cnd_intro (fun c => ?_) (fun c => ?_)
  · rename_i c0
    have hlv : liveB (rd0 m (tkAt m x)) x = true := by
      simp only [liveB, decide_eq_true_eq]; exact ⟨by simpa [rd0, tkAt] using c0, by simpa [rd0, tkAt] using c⟩
    have e1 : (wres (s44 m (Wk.with26 (Wk.with0 x 44) false))).2.1 = roomL m (Wk.with26 (Wk.with19 (Wk.with15 (Wk.with0 x 0) (wr (entB (rdW (clearM m) (entryV m.c (tkE x.t))) + 1))) (rdW (clearM m) (entryV m.c (tkE x.t)))) false) 45 := if_pos hlv
    refine ⟨Lim.easy (n := 50000) ⟨q1, q2, q3⟩ (by omega), Lim.easy (n := 50000) ⟨q1, q2, q3⟩ (by omega), ?_⟩
    refine cnd_intro (fun d => ⟨?_, ?_⟩) (fun d => ?_)
    · exact Lim.mono (n := 50000) (lim_now (n := 50000) (x := (Wk.with26 (Wk.with19 (Wk.with15 (Wk.with0 x 0) (wr (entB (rdW (clearM m) (entryV m.c (tkE x.t))) + 1))) (rdW (clearM m) (entryV m.c (tkE x.t)))) false)) ⟨q1, q2, q3⟩) (by omega)
    · have d' : ¬ ((bagL (nowX (Wk.with26 (Wk.with19 (Wk.with15 (Wk.with0 x 0) (wr (entB (rdW (clearM m) (entryV m.c (tkE x.t))) + 1))) (rdW (clearM m) (entryV m.c (tkE x.t)))) false)) (idxW (Wk.with26 (Wk.with19 (Wk.with15 (Wk.with0 x 0) (wr (entB (rdW (clearM m) (entryV m.c (tkE x.t))) + 1))) (rdW (clearM m) (entryV m.c (tkE x.t)))) false))).length : Int) < m.c.a := by simpa using d
      exact Prod.ext rfl (Prod.ext (e1.trans (if_neg d')).symm rfl)
    · have d' : ((bagL (nowX (Wk.with26 (Wk.with19 (Wk.with15 (Wk.with0 x 0) (wr (entB (rdW (clearM m) (entryV m.c (tkE x.t))) + 1))) (rdW (clearM m) (entryV m.c (tkE x.t)))) false)) (idxW (Wk.with26 (Wk.with19 (Wk.with15 (Wk.with0 x 0) (wr (entB (rdW (clearM m) (entryV m.c (tkE x.t))) + 1))) (rdW (clearM m) (entryV m.c (tkE x.t)))) false))).length : Int) < m.c.a := by simpa using d
      exact Prod.ext rfl (Prod.ext (e1.trans (if_pos d')).symm rfl)
  · rename_i c0
    have hlv : ¬ liveB (rd0 m (tkAt m x)) x = true := by
      simp only [liveB, decide_eq_true_eq]; intro h; exact (beq_eq_false_iff_ne.1 c) h.2
    exact ⟨Lim.mono (n := 50000) ⟨q1, q2, q3⟩ (by omega), Prod.ext rfl (Prod.ext (if_neg hlv).symm rfl)⟩
  · have hlv : ¬ liveB (rd0 m (tkAt m x)) x = true := by
      simp only [liveB, decide_eq_true_eq]; intro h; exact (show ¬ entS (rdW (clearM m) (entryV m.c (tkE x.t))) = 1 from by simpa using c) h.1
    exact ⟨Lim.mono (n := 50000) ⟨q1, q2, q3⟩ (by omega), Prod.ext rfl (Prod.ext (if_neg hlv).symm rfl)⟩
theorem ws45 (m : Md) (w : Int) (x : Wk) (hl : Lim 50000 x) (hb : 1 ≤ m.c.b ∧ m.c.b ≤ 16) : aexecF cnd cx ΓH noSpec 300 Tryz.f40 (codeOf Tryz.f40) (.ptr 0 0 :: aWX.enc (w, (Wk.with26 (Wk.with0 x 45) false))) (GM.gr m) (fun y R => rdG GM cdWB y R (fun m' b => (m', b) = wres (workS m w (Wk.with26 (Wk.with0 x 45) false)))) := by
  refine Eq.mpr (vc_st45 _ m w x) ?_
  rw [show workS m w (Wk.with26 (Wk.with0 x 45) false) = s45 m (Wk.with26 (Wk.with0 x 45) false) from rfl]
  have q1 := hl.rack
  have q2 := hl.read
  have q3 := hl.sum
  repeat' first | refine And.intro trivial ?_ | refine cnd_intro (fun c => ?_) (fun c => ?_)
  · refine ⟨Lim.easy (n := 50000) ⟨q1, q2, q3⟩ (by omega), Lim.easy (n := 50000) ⟨q1, q2, q3⟩ (by omega), ?_, ?_⟩
    · exact Lim.mono (n := 50001) (lim_same (lim_bagPut (n := 50000) (x := Wk.with26 (Wk.with12 (Wk.with0 x 0) 0) false) ⟨q1, q2, q3⟩ m.c (wr (x.c - 1))) rfl rfl rfl rfl rfl rfl) (by omega)
    · exact Prod.ext rfl (Prod.ext (if_pos (show casOk m (tkAt m x) x.v = true from c)).symm rfl)
  · exact Prod.ext rfl (Prod.ext (if_neg (show ¬ casOk m (tkAt m x) x.v = true from fun h => by rw [show casOk m (tkAt m x) x.v = false from c] at h; cases h)).symm rfl)
theorem ws61 (m : Md) (w : Int) (x : Wk) (hl : Lim 50000 x) (hb : 1 ≤ m.c.b ∧ m.c.b ≤ 16) : aexecF cnd cx ΓH noSpec 300 Tryz.f40 (codeOf Tryz.f40) (.ptr 0 0 :: aWX.enc (w, (Wk.with26 (Wk.with0 x 61) false))) (GM.gr m) (fun y R => rdG GM cdWB y R (fun m' b => (m', b) = wres (workS m w (Wk.with26 (Wk.with0 x 61) false)))) := by
  refine Eq.mpr (vc_st61 _ m w x) ?_
  rw [show workS m w (Wk.with26 (Wk.with0 x 61) false) = s61 m (Wk.with26 (Wk.with0 x 61) false) from rfl]
  have q1 := hl.rack
  have q2 := hl.read
  have q3 := hl.sum
  have g1 : wr (0 + (x.read.length : Int)) = (x.read.length : Int) := by rw [wr_in (by omega)]; omega
  have g2 : wr ((x.read.length : Int) + (List.length [rdW (clearM m) (wordV m.c (wr (x.c - 1)) x.j)] : Int)) = (x.read.length : Int) + 1 := by simp only [List.length_singleton]; rw [wr_in (by omega)]; rfl
  have g3 : wr ((x.read.length : Int) + 1 - 0) = (x.read.length : Int) + 1 := by rw [wr_in (by omega)]; omega
  repeat' first | refine And.intro trivial ?_
  rw [g1, g2, g3]
  refine cnd_intro (fun c => ?_) (fun _ => ?_)
  · have c : (x.read.length : Int) < 0 := by simpa using c
    omega
  refine cnd_intro (fun c => ?_) (fun _ => ?_)
  · have c : (x.read.length : Int) + 1 < 0 := by simpa using c
    omega
  refine cnd_intro (fun c => ?_) (fun _ => ?_)
  · have c : (x.read.length : Int) + 1 < 0 := by simpa using c
    omega
  refine cnd_intro (fun _ => ?_) (fun c => (by
    have c : ¬ (x.read.length : Int) + 1 > 0 := of_decide_eq_false c
    omega))
  simp only [List.take_zero, List.nil_append, List.length_nil, List.length_append, List.length_singleton, Nat.zero_add]
  refine ⟨trivial, ⟨by omega, by omega, by omega⟩, ⟨by omega, by omega⟩, ⟨by omega, by omega⟩, ⟨by omega, by omega⟩, ?_⟩
  refine cnd_intro (fun d => ?_) (fun d => ?_)
  · have d' : wr (x.j + 1) < m.c.o := by simpa using d
    exact Prod.ext rfl (Prod.ext (if_pos d').symm rfl)
  · have d' : ¬ wr (x.j + 1) < m.c.o := by simpa using d
    refine cnd_intro (fun e => ⟨?_, ?_⟩) (fun e => ⟨?_, ?_⟩)
    · exact Lim.mono (n := 50001) ⟨Nat.le_trans q1 (by omega), by simp; omega, Nat.le_trans q3 (by omega)⟩ (by omega)
    · refine Prod.ext rfl (Prod.ext (Eq.trans ?_ (if_neg d').symm) rfl)
      cases x
      subst e
      rfl
    · exact Lim.mono (n := 50001) ⟨Nat.le_trans q1 (by omega), by simp; omega, Nat.le_trans q3 (by omega)⟩ (by omega)
    · refine Prod.ext rfl (Prod.ext (Eq.trans ?_ (if_neg d').symm) rfl)
      cases x
      subst e
      rfl
theorem ws62 (m : Md) (w : Int) (x : Wk) (hl : Lim 50000 x) (hb : 1 ≤ m.c.b ∧ m.c.b ≤ 16) : aexecF cnd cx ΓH noSpec 300 Tryz.f40 (codeOf Tryz.f40) (.ptr 0 0 :: aWX.enc (w, (Wk.with26 (Wk.with0 x 62) false))) (GM.gr m) (fun y R => rdG GM cdWB y R (fun m' b => (m', b) = wres (workS m w (Wk.with26 (Wk.with0 x 62) false)))) := by
  refine Eq.mpr (vc_st62 _ m w x) ?_
  rw [show workS m w (Wk.with26 (Wk.with0 x 62) false) = s62 m (Wk.with26 (Wk.with0 x 62) false) from rfl]
  have q1 := hl.rack
  have q2 := hl.read
  have q3 := hl.sum
  have g1 : wr (0 + (x.read.length : Int)) = (x.read.length : Int) := by rw [wr_in (by omega)]; omega
  have g2 : wr ((x.read.length : Int) + (List.length [rdW (clearM m) (wordV m.c (wr (x.bor - 1)) x.j)] : Int)) = (x.read.length : Int) + 1 := by simp only [List.length_singleton]; rw [wr_in (by omega)]; rfl
  have g3 : wr ((x.read.length : Int) + 1 - 0) = (x.read.length : Int) + 1 := by rw [wr_in (by omega)]; omega
  repeat' first | refine And.intro trivial ?_
  rw [g1, g2, g3]
  refine cnd_intro (fun c => ?_) (fun _ => ?_)
  · have c : (x.read.length : Int) < 0 := by simpa using c
    omega
  refine cnd_intro (fun c => ?_) (fun _ => ?_)
  · have c : (x.read.length : Int) + 1 < 0 := by simpa using c
    omega
  refine cnd_intro (fun c => ?_) (fun _ => ?_)
  · have c : (x.read.length : Int) + 1 < 0 := by simpa using c
    omega
  refine cnd_intro (fun _ => ?_) (fun c => (by
    have c : ¬ (x.read.length : Int) + 1 > 0 := of_decide_eq_false c
    omega))
  simp only [List.take_zero, List.nil_append, List.length_nil, List.length_append, List.length_singleton, Nat.zero_add]
  refine ⟨trivial, ⟨by omega, by omega, by omega⟩, ⟨by omega, by omega⟩, ⟨by omega, by omega⟩, ⟨by omega, by omega⟩, ?_⟩
  refine cnd_intro (fun d => ?_) (fun d => ?_)
  · have d' : wr (x.j + 1) < m.c.o := by simpa using d
    exact Prod.ext rfl (Prod.ext (if_pos d').symm rfl)
  · have d' : ¬ wr (x.j + 1) < m.c.o := by simpa using d
    exact Prod.ext rfl (Prod.ext (if_neg d').symm rfl)
theorem ws30g (m : Md) (w : Int) (x : Wk) (hl : Lim 50000 x) (hb : 1 ≤ m.c.b ∧ m.c.b ≤ 16) : aexecF cnd cx ΓH noSpec 300 Tryz.f40 (codeOf Tryz.f40) (.ptr 0 0 :: aWX.enc (w, (Wk.with26 (Wk.with0 x 30) true))) (GM.gr m) (fun y R => rdG GM cdWB y R (fun m' b => (m', b) = wres (workS m w (Wk.with26 (Wk.with0 x 30) true)))) := by
  refine Eq.mpr (vc_st30g _ m w x) ?_
  rw [show workS m w (Wk.with26 (Wk.with0 x 30) true) = s30 m (Wk.with26 (Wk.with0 x 30) true) from rfl]
  have q1 := hl.rack
  have q2 := hl.read
  have q3 := hl.sum
  repeat' first | refine And.intro trivial ?_
  refine cnd_intro (fun c => ?_) (fun c => ⟨?_, ?_⟩)
  · exact Prod.ext rfl (Prod.ext (if_pos (show slbP (wu ((addM (clearM m) (slabAt m x.k) 16).2 + 16)) = m.c.b from beq_iff_eq.1 c)).symm rfl)
  · exact Lim.mono (n := 50000) ⟨q1, q2, q3⟩ (by omega)
  · have c' : ¬ slbP (wu ((addM (clearM m) (slabAt m x.k) 16).2 + 16)) = m.c.b := beq_eq_false_iff_ne.1 c
    have e2 : (wres (s30 m (Wk.with26 (Wk.with0 x 30) true))).2.1 = giveBackW (Wk.with26 (Wk.with13 (Wk.with0 x 0) 0) true) := if_neg c'
    repeat' first | refine And.intro trivial ?_ | refine cnd_intro (fun c => ?_) (fun c => ?_)
    all_goals
      refine Prod.ext rfl (Prod.ext (Eq.trans ?_ e2.symm) rfl)
      rw [giveBack_give rfl]
      simp_all [giveBegin_not2]
theorem ws39g (m : Md) (w : Int) (x : Wk) (hl : Lim 50000 x) (hb : 1 ≤ m.c.b ∧ m.c.b ≤ 16) : aexecF cnd cx ΓH noSpec 300 Tryz.f40 (codeOf Tryz.f40) (.ptr 0 0 :: aWX.enc (w, (Wk.with26 (Wk.with0 x 39) true))) (GM.gr m) (fun y R => rdG GM cdWB y R (fun m' b => (m', b) = wres (workS m w (Wk.with26 (Wk.with0 x 39) true)))) := by
  refine Eq.mpr (vc_st39g _ m w x) ?_
  rw [show workS m w (Wk.with26 (Wk.with0 x 39) true) = s39 m (Wk.with26 (Wk.with0 x 39) true) from rfl]
  have q1 := hl.rack
  have q2 := hl.read
  have q3 := hl.sum
  repeat' first | refine And.intro trivial ?_ | refine cnd_intro (fun c => ?_) (fun c => ?_)
  · have c' : ¬ slbS (rd0 m (slabAt m x.k)) = 2 := by simpa [rd0, slabAt] using c
    have e1 : (wres (s39 m (Wk.with26 (Wk.with0 x 39) true))).2.1 = if (putW (m.c, (Wk.with26 (Wk.with0 x 0) true), wr (x.k - 1))).2 = true then giveBackW (Wk.with13 (putW (m.c, (Wk.with26 (Wk.with0 x 0) true), wr (x.k - 1))).1 0) else Wk.with26 (Wk.with0 x 13) true := if_neg c'
    refine ⟨Lim.bear (n := 50000) ⟨q1, q2, q3⟩ (by omega), ?_⟩
    repeat' first | refine And.intro trivial ?_ | refine And.intro (Lim.bear (n := 50000) ⟨q1, q2, q3⟩ (by omega)) ?_
    refine cnd_intro (fun d => ?_) (fun d => ⟨?_, ?_⟩)
    · have d' : ¬ (putW (m.c, (Wk.with26 (Wk.with0 x 0) true), wr (x.k - 1))).2 = true := by simpa using d
      exact Prod.ext rfl (Prod.ext (e1.trans (if_neg d')).symm rfl)
    · exact Lim.mono (n := 50001) (lim_same (lim_putW (n := 50000) (x := Wk.with26 (Wk.with0 x 0) true) ⟨q1, q2, q3⟩ m.c (wr (x.k - 1))) rfl rfl rfl rfl rfl rfl) (by omega)
    · have d' : (putW (m.c, (Wk.with26 (Wk.with0 x 0) true), wr (x.k - 1))).2 = true := by simpa using d
      have hg : (Wk.with13 (putW (m.c, (Wk.with26 (Wk.with0 x 0) true), wr (x.k - 1))).1 0).give = true := by
        unfold putW; split <;> rfl
      have e2 := e1.trans (if_pos d')
      generalize Wk.with13 (putW (m.c, (Wk.with26 (Wk.with0 x 0) true), wr (x.k - 1))).1 0 = Y at *
      repeat' first | refine And.intro trivial ?_ | refine cnd_intro (fun c => ?_) (fun c => ?_)
      all_goals
        refine Prod.ext rfl (Prod.ext (Eq.trans ?_ e2.symm) rfl)
        rw [giveBack_give hg]
        simp_all [giveBegin_not2]
  · have c' : slbS (rd0 m (slabAt m x.k)) = 2 := by simpa [rd0, slabAt] using c
    exact Prod.ext rfl (Prod.ext (if_pos c').symm rfl)
theorem wk_at {x : Wk} {l : Int} {g : Bool} (h1 : x.line = l) (h2 : x.give = g) : x = Wk.with26 (Wk.with0 x l) g := by cases x; simp_all
/-- One step, whatever the line. -/
def stepP (m : Md) (y : Int × Wk) : Prop := okLine y.2 ∧ Lim 50000 y.2 ∧ 1 ≤ m.c.b ∧ m.c.b ≤ 16
noncomputable def gStep : GSpec El := gcall GM aWX cdWB stepP (fun m y => wres (workS m y.1 y.2))
theorem okw (m : Md) (w : Int) (x : Wk) (hp : stepP m (w, x)) : aexecF cnd cx ΓH noSpec 300 Tryz.f40 (codeOf Tryz.f40) (.ptr 0 0 :: aWX.enc (w, x)) (GM.gr m) (fun y R => rdG GM cdWB y R (fun m' b => (m', b) = wres (workS m w x))) := by
  obtain ⟨h1, h2, h3⟩ := hp
  simp only at h1 h2
  obtain ⟨a13g, a14g, a15g, a31g, a32g⟩ := wsA3 m w x h2 h3
  obtain ⟨a40, a41, a23, a24, a25, a46, a60⟩ := wsA2 m w x h2 h3
  obtain ⟨a12, a31, a32, a33, a34, a35, a38, a50, a20, a21, a22⟩ := wsA1 m w x h2 h3
  obtain ⟨a1, a2, a3, a90, a70, a71, a72, a36, a37, a10, a11⟩ := wsA0 m w x h2 h3
  rcases h1 with ⟨hg, hl⟩ | ⟨hg, hl⟩
  · simp only [linesF, List.mem_cons, List.not_mem_nil, or_false] at hl
    rcases hl with hl | hl | hl | hl | hl | hl | hl | hl | hl | hl | hl | hl | hl | hl | hl | hl | hl | hl | hl | hl | hl | hl | hl | hl | hl | hl | hl | hl | hl | hl | hl | hl | hl | hl | hl | hl | hl
    all_goals rw [wk_at hl hg]
    · exact a1
    · exact a2
    · exact a3
    · exact a90
    · exact a70
    · exact a71
    · exact a72
    · exact ws73 m w x h2 h3
    · exact a36
    · exact a37
    · exact a10
    · exact a11
    · exact a12
    · exact ws30 m w x h2 h3
    · exact a31
    · exact a32
    · exact a33
    · exact a34
    · exact a35
    · exact a38
    · exact a50
    · exact a20
    · exact a21
    · exact a22
    · exact a40
    · exact a41
    · exact a23
    · exact a24
    · exact a25
    · exact ws42 m w x h2 h3
    · exact ws43 m w x h2 h3
    · exact a46
    · exact ws44 m w x h2 h3
    · exact ws45 m w x h2 h3
    · exact a60
    · exact ws61 m w x h2 h3
    · exact ws62 m w x h2 h3
  · simp only [linesT, List.mem_cons, List.not_mem_nil, or_false] at hl
    rcases hl with hl | hl | hl | hl | hl | hl | hl
    all_goals rw [wk_at hl hg]
    · exact a13g
    · exact a14g
    · exact a15g
    · exact ws30g m w x h2 h3
    · exact a31g
    · exact a32g
    · exact ws39g m w x h2 h3
theorem ok40 : GOk cx 40 gStep := gcall_ok ΓH_ok Tryz.func40 (body_of (by kernel_rfl)) Tryz.call40 (fun m ⟨w, x⟩ hp => ⟨noSpec, 300, okw m w x hp⟩)
end Go.Proofs.YtaeepogbgflbpaaGreat
end

/- What starting an operation, a linearization point and a well-formed ticket are, in plain Lean; their tables. No condition. -/
section
set_option linter.unusedVariables false
set_option linter.unusedSimpArgs false
set_option maxRecDepth 100000
namespace Go.Proofs.YtaeepogbgflbpaaGreat
open Go Go.Ax

def goodB (c : Cfg) (t : Int) : Bool := decide (checkV c = 0 ∧ 0 ≤ tkE t ∧ tkE t < c.e ∧ 1 ≤ tkG t ∧ tkG t ≤ c.l)
/-- The state in which an operation starts. -/
def startX (x : Wk) (o : OpD) (t : Int) : Wk := { x with op := o, t := selZ (!asks o.k) 0 t, read := [], ret := 0, give := false, b := 0, k := 0, i := 0, c := 0, j := 0 }
def endX (x : Wk) (e : Int) : Wk := { x with ret := e, line := 0 }
def sharedX (x : Wk) : Wk := if x.pin = true then bodyW x else { x with line := 1 }
def begX (c : Cfg) (x : Wk) (o : OpD) : Wk :=
  if o.k = 1 then (if x.pin = true then endX x 9 else { x with line := 1 }) else
  if o.k = 2 then (if x.pin = true then { x with line := 90 } else endX x 9) else
  if o.k = 4 ∨ o.k = 5 ∨ o.k = 6 then (if goodB c x.t = true then sharedX x else endX x 8) else
  if o.k = 3 then sharedX x else
  if o.k = 7 then (if x.pin = true ∧ x.bor ≠ 0 then { x with line := 62 } else endX x 9) else
  if o.k = 8 then { x with line := 70 } else
  if o.k = 9 then (if 0 ≤ o.s ∧ o.s < c.s then { x with line := 36 } else endX x 8) else endX x 3
def beginW (y : Cfg × Wk × OpD × Int) : Wk := begX y.1 (startX y.2.1 y.2.2.1 y.2.2.2) y.2.2.1
/-- Whether a step is the point at which its operation takes effect. -/
def pointB (a b : Wk) : Bool := decide ((a.ret = 0 ∧ b.ret ≠ 0) ∨ (a.line = 3 ∧ b.pin = true ∧ a.pin = false) ∨ (a.line = 90 ∧ a.op.k = 2) ∨ ((a.line = 43 ∨ a.line = 45) ∧ b.line ≠ wr (a.line - 1)) ∨ (a.line = 60 ∧ b.line = 61) ∨
  (a.line = 62 ∧ a.j = 0) ∨ (a.line = 37 ∧ b.line = 0) ∨ a.line = 41 ∨ a.line = 73)
abbrev aBeg : Cd El (Cfg × Wk × OpD × Int) := .pair aCfg (.pair aWk (.pair (Cd.agg cdOp) aU))
abbrev aWW : Cd El (Wk × Wk) := .pair aWk aWk
abbrev aCU : Cd El (Cfg × Int) := .pair aCfg aU
noncomputable def ΓN0 : FuncId → Option (GSpec El) := addΓ ΓK 16 (said aU fun w => .tup [.int .i64 (tkE w), .int .u64 (tkG w)])
noncomputable def ΓN1 : FuncId → Option (GSpec El) := addΓ (addΓ ΓA1 8 (said aCU fun y => .bool (goodB y.1 y.2))) 61 (inl cx noΓ 60 Tryz.f61 (codeOf Tryz.f61))
noncomputable def gBegin : GSpec El := plain aBeg aWk (fun y => Lim 50000 y.2.1) beginW
end Go.Proofs.YtaeepogbgflbpaaGreat
end

/- What starting an operation and the like come to, printed. No condition. -/
section
set_option linter.unusedVariables false
set_option linter.unusedSimpArgs false
set_option maxRecDepth 100000
set_option maxHeartbeats 4000000
namespace Go.Proofs.YtaeepogbgflbpaaGreat
open Go Go.Ax

theorem vc_good (K : AVal El → Prop) (c : Cfg) (t : Int) : aexecF cnd cx ΓK noSpec 100 Tryz.f8 (codeOf Tryz.f8) (aCU.enc (c, t)) [] (fun y _ => K y) = ( True ∧ True ∧ cnd ((checkV c == (0 : Int)) ==
  true) (cnd (decide (tkE t ≥ (0 : Int)) == true) (cnd (decide (tkE t < c.e) == true) (cnd (decide (tkG t ≥ (1 : Int)) == true) (K (AVal.bool (decide (tkG t ≤ c.l)))) (K (AVal.bool false))) (K
  (AVal.bool false))) (K (AVal.bool false))) (K (AVal.bool false))) := by kernel_rfl


theorem vc_begin (K : Wk → Prop) (c : Cfg) (x : Wk) (o : OpD) (t : Int) : aexecF cnd cx ΓN1 noSpec 300 Tryz.f51 (codeOf Tryz.f51) (aBeg.enc (c, x, o, t)) [] (fun y R =>
  rd aWk (settleA R y) K) = ( True ∧ cnd (o.k == (1 : Int)) (cnd x.pin (K (Wk.with26 (Wk.with25 (Wk.with24 (Wk.with23 (Wk.with22 (Wk.with15 (Wk.with14 (Wk.with13 (Wk.with12
  (Wk.with1 (Wk.with0 x (0 : Int)) o) (0 : Int)) (0 : Int)) (0 : Int)) (0 : Int)) (0 : Int)) []) (selZ (!asks o.k) (0 : Int) t)) (9 : Int)) false)) (K (Wk.with26 (Wk.with25
  (Wk.with24 (Wk.with23 (Wk.with22 (Wk.with15 (Wk.with14 (Wk.with13 (Wk.with12 (Wk.with1 (Wk.with0 x (1 : Int)) o) (0 : Int)) (0 : Int)) (0 : Int)) (0 : Int)) (0 : Int))
  []) (selZ (!asks o.k) (0 : Int) t)) (0 : Int)) false))) (cnd (o.k == (2 : Int)) (cnd (!x.pin) (K (Wk.with26 (Wk.with25 (Wk.with24 (Wk.with23 (Wk.with22 (Wk.with15
  (Wk.with14 (Wk.with13 (Wk.with12 (Wk.with1 (Wk.with0 x (0 : Int)) o) (0 : Int)) (0 : Int)) (0 : Int)) (0 : Int)) (0 : Int)) []) (selZ (!asks o.k) (0 : Int) t)) (9 : Int))
  false)) (K (Wk.with26 (Wk.with25 (Wk.with24 (Wk.with23 (Wk.with22 (Wk.with15 (Wk.with14 (Wk.with13 (Wk.with12 (Wk.with1 (Wk.with0 x (90 : Int)) o) (0 : Int)) (0 : Int))
  (0 : Int)) (0 : Int)) (0 : Int)) []) (selZ (!asks o.k) (0 : Int) t)) (0 : Int)) false))) (cnd (o.k == (4 : Int)) (True ∧ cnd (!goodB c (selZ (!asks o.k) (0 : Int) t)) (K
  (Wk.with26 (Wk.with25 (Wk.with24 (Wk.with23 (Wk.with22 (Wk.with15 (Wk.with14 (Wk.with13 (Wk.with12 (Wk.with1 (Wk.with0 x (0 : Int)) o) (0 : Int)) (0 : Int)) (0 : Int)) (0
  : Int)) (0 : Int)) []) (selZ (!asks o.k) (0 : Int) t)) (8 : Int)) false)) (cnd x.pin (Lim (70000 : Nat) (Wk.with26 (Wk.with25 (Wk.with24 (Wk.with23 (Wk.with22 (Wk.with15
  (Wk.with14 (Wk.with13 (Wk.with12 (Wk.with1 x o) (0 : Int)) (0 : Int)) (0 : Int)) (0 : Int)) (0 : Int)) []) (selZ (!asks o.k) (0 : Int) t)) (0 : Int)) false) ∧ K (bodyW
  (Wk.with26 (Wk.with25 (Wk.with24 (Wk.with23 (Wk.with22 (Wk.with15 (Wk.with14 (Wk.with13 (Wk.with12 (Wk.with1 x o) (0 : Int)) (0 : Int)) (0 : Int)) (0 : Int)) (0 : Int))
  []) (selZ (!asks o.k) (0 : Int) t)) (0 : Int)) false))) (K (Wk.with26 (Wk.with25 (Wk.with24 (Wk.with23 (Wk.with22 (Wk.with15 (Wk.with14 (Wk.with13 (Wk.with12 (Wk.with1
  (Wk.with0 x (1 : Int)) o) (0 : Int)) (0 : Int)) (0 : Int)) (0 : Int)) (0 : Int)) []) (selZ (!asks o.k) (0 : Int) t)) (0 : Int)) false)))) (cnd (o.k == (5 : Int)) (True ∧
  cnd (!goodB c (selZ (!asks o.k) (0 : Int) t)) (K (Wk.with26 (Wk.with25 (Wk.with24 (Wk.with23 (Wk.with22 (Wk.with15 (Wk.with14 (Wk.with13 (Wk.with12 (Wk.with1 (Wk.with0 x
  (0 : Int)) o) (0 : Int)) (0 : Int)) (0 : Int)) (0 : Int)) (0 : Int)) []) (selZ (!asks o.k) (0 : Int) t)) (8 : Int)) false)) (cnd x.pin (Lim (70000 : Nat) (Wk.with26
  (Wk.with25 (Wk.with24 (Wk.with23 (Wk.with22 (Wk.with15 (Wk.with14 (Wk.with13 (Wk.with12 (Wk.with1 x o) (0 : Int)) (0 : Int)) (0 : Int)) (0 : Int)) (0 : Int)) []) (selZ
  (!asks o.k) (0 : Int) t)) (0 : Int)) false) ∧ K (bodyW (Wk.with26 (Wk.with25 (Wk.with24 (Wk.with23 (Wk.with22 (Wk.with15 (Wk.with14 (Wk.with13 (Wk.with12 (Wk.with1 x o)
  (0 : Int)) (0 : Int)) (0 : Int)) (0 : Int)) (0 : Int)) []) (selZ (!asks o.k) (0 : Int) t)) (0 : Int)) false))) (K (Wk.with26 (Wk.with25 (Wk.with24 (Wk.with23 (Wk.with22
  (Wk.with15 (Wk.with14 (Wk.with13 (Wk.with12 (Wk.with1 (Wk.with0 x (1 : Int)) o) (0 : Int)) (0 : Int)) (0 : Int)) (0 : Int)) (0 : Int)) []) (selZ (!asks o.k) (0 : Int) t))
  (0 : Int)) false)))) (cnd (o.k == (6 : Int)) (True ∧ cnd (!goodB c (selZ (!asks o.k) (0 : Int) t)) (K (Wk.with26 (Wk.with25 (Wk.with24 (Wk.with23 (Wk.with22 (Wk.with15
  (Wk.with14 (Wk.with13 (Wk.with12 (Wk.with1 (Wk.with0 x (0 : Int)) o) (0 : Int)) (0 : Int)) (0 : Int)) (0 : Int)) (0 : Int)) []) (selZ (!asks o.k) (0 : Int) t)) (8 : Int))
  false)) (cnd x.pin (Lim (70000 : Nat) (Wk.with26 (Wk.with25 (Wk.with24 (Wk.with23 (Wk.with22 (Wk.with15 (Wk.with14 (Wk.with13 (Wk.with12 (Wk.with1 x o) (0 : Int)) (0 :
  Int)) (0 : Int)) (0 : Int)) (0 : Int)) []) (selZ (!asks o.k) (0 : Int) t)) (0 : Int)) false) ∧ K (bodyW (Wk.with26 (Wk.with25 (Wk.with24 (Wk.with23 (Wk.with22 (Wk.with15
  (Wk.with14 (Wk.with13 (Wk.with12 (Wk.with1 x o) (0 : Int)) (0 : Int)) (0 : Int)) (0 : Int)) (0 : Int)) []) (selZ (!asks o.k) (0 : Int) t)) (0 : Int)) false))) (K
  (Wk.with26 (Wk.with25 (Wk.with24 (Wk.with23 (Wk.with22 (Wk.with15 (Wk.with14 (Wk.with13 (Wk.with12 (Wk.with1 (Wk.with0 x (1 : Int)) o) (0 : Int)) (0 : Int)) (0 : Int)) (0
  : Int)) (0 : Int)) []) (selZ (!asks o.k) (0 : Int) t)) (0 : Int)) false)))) (cnd (o.k == (3 : Int)) (cnd x.pin (Lim (70000 : Nat) (Wk.with26 (Wk.with25 (Wk.with24
  (Wk.with23 (Wk.with22 (Wk.with15 (Wk.with14 (Wk.with13 (Wk.with12 (Wk.with1 x o) (0 : Int)) (0 : Int)) (0 : Int)) (0 : Int)) (0 : Int)) []) (selZ (!asks o.k) (0 : Int)
  t)) (0 : Int)) false) ∧ K (bodyW (Wk.with26 (Wk.with25 (Wk.with24 (Wk.with23 (Wk.with22 (Wk.with15 (Wk.with14 (Wk.with13 (Wk.with12 (Wk.with1 x o) (0 : Int)) (0 : Int))
  (0 : Int)) (0 : Int)) (0 : Int)) []) (selZ (!asks o.k) (0 : Int) t)) (0 : Int)) false))) (K (Wk.with26 (Wk.with25 (Wk.with24 (Wk.with23 (Wk.with22 (Wk.with15 (Wk.with14
  (Wk.with13 (Wk.with12 (Wk.with1 (Wk.with0 x (1 : Int)) o) (0 : Int)) (0 : Int)) (0 : Int)) (0 : Int)) (0 : Int)) []) (selZ (!asks o.k) (0 : Int) t)) (0 : Int)) false)))
  (cnd (o.k == (7 : Int)) (cnd ((!x.pin) == false) (cnd (x.bor == (0 : Int)) (K (Wk.with26 (Wk.with25 (Wk.with24 (Wk.with23 (Wk.with22 (Wk.with15 (Wk.with14 (Wk.with13
  (Wk.with12 (Wk.with1 (Wk.with0 x (0 : Int)) o) (0 : Int)) (0 : Int)) (0 : Int)) (0 : Int)) (0 : Int)) []) (selZ (!asks o.k) (0 : Int) t)) (9 : Int)) false)) (K (Wk.with26
  (Wk.with25 (Wk.with24 (Wk.with23 (Wk.with22 (Wk.with15 (Wk.with14 (Wk.with13 (Wk.with12 (Wk.with1 (Wk.with0 x (62 : Int)) o) (0 : Int)) (0 : Int)) (0 : Int)) (0 : Int))
  (0 : Int)) []) (selZ (!asks o.k) (0 : Int) t)) (0 : Int)) false))) (K (Wk.with26 (Wk.with25 (Wk.with24 (Wk.with23 (Wk.with22 (Wk.with15 (Wk.with14 (Wk.with13 (Wk.with12
  (Wk.with1 (Wk.with0 x (0 : Int)) o) (0 : Int)) (0 : Int)) (0 : Int)) (0 : Int)) (0 : Int)) []) (selZ (!asks o.k) (0 : Int) t)) (9 : Int)) false))) (cnd (o.k == (8 : Int))
  (K (Wk.with26 (Wk.with25 (Wk.with24 (Wk.with23 (Wk.with22 (Wk.with15 (Wk.with14 (Wk.with13 (Wk.with12 (Wk.with1 (Wk.with0 x (70 : Int)) o) (0 : Int)) (0 : Int)) (0 :
  Int)) (0 : Int)) (0 : Int)) []) (selZ (!asks o.k) (0 : Int) t)) (0 : Int)) false)) (cnd (o.k == (9 : Int)) (cnd (decide (o.s < (0 : Int)) == false) (cnd (decide (o.s ≥
  c.s)) (K (Wk.with26 (Wk.with25 (Wk.with24 (Wk.with23 (Wk.with22 (Wk.with15 (Wk.with14 (Wk.with13 (Wk.with12 (Wk.with1 (Wk.with0 x (0 : Int)) o) (0 : Int)) (0 : Int)) (0 :
  Int)) (0 : Int)) (0 : Int)) []) (selZ (!asks o.k) (0 : Int) t)) (8 : Int)) false)) (K (Wk.with26 (Wk.with25 (Wk.with24 (Wk.with23 (Wk.with22 (Wk.with15 (Wk.with14
  (Wk.with13 (Wk.with12 (Wk.with1 (Wk.with0 x (36 : Int)) o) (0 : Int)) (0 : Int)) (0 : Int)) (0 : Int)) (0 : Int)) []) (selZ (!asks o.k) (0 : Int) t)) (0 : Int)) false)))
  (K (Wk.with26 (Wk.with25 (Wk.with24 (Wk.with23 (Wk.with22 (Wk.with15 (Wk.with14 (Wk.with13 (Wk.with12 (Wk.with1 (Wk.with0 x (0 : Int)) o) (0 : Int)) (0 : Int)) (0 : Int))
  (0 : Int)) (0 : Int)) []) (selZ (!asks o.k) (0 : Int) t)) (8 : Int)) false))) (K (Wk.with26 (Wk.with25 (Wk.with24 (Wk.with23 (Wk.with22 (Wk.with15 (Wk.with14 (Wk.with13
  (Wk.with12 (Wk.with1 (Wk.with0 x (0 : Int)) o) (0 : Int)) (0 : Int)) (0 : Int)) (0 : Int)) (0 : Int)) []) (selZ (!asks o.k) (0 : Int) t)) (3 : Int)) false))))))))))) :=
  by kernel_rfl


theorem vc_point (K : AVal El → Prop) (a b : Wk) : aexecF cnd cx noΓ noSpec 300 Tryz.f42 (codeOf Tryz.f42) (aWW.enc (a, b)) [] (fun y _ => K y) = ( cnd ((a.ret == (0 : Int)) == true) (cnd (b.ret != (0
  : Int)) (K (AVal.bool true)) (cnd (a.line == (3 : Int)) (cnd (b.pin == true) (K (AVal.bool !a.pin)) (K (AVal.bool false))) (cnd (a.line == (90 : Int)) (K (AVal.bool (a.op.k == (2 : Int)))) (cnd
  (a.line == (43 : Int)) (K (AVal.bool (b.line != wr (a.line - (1 : Int))))) (cnd (a.line == (45 : Int)) (K (AVal.bool (b.line != wr (a.line - (1 : Int))))) (cnd (a.line == (60 : Int)) (K (AVal.bool
  (b.line == (61 : Int)))) (cnd (a.line == (62 : Int)) (K (AVal.bool (a.j == (0 : Int)))) (cnd (a.line == (37 : Int)) (K (AVal.bool (b.line == (0 : Int)))) (cnd (a.line == (41 : Int)) (K (AVal.bool
  true)) (cnd (a.line == (73 : Int)) (K (AVal.bool true)) (K (AVal.bool false)))))))))))) (cnd (a.line == (3 : Int)) (cnd (b.pin == true) (K (AVal.bool !a.pin)) (K (AVal.bool false))) (cnd (a.line ==
  (90 : Int)) (K (AVal.bool (a.op.k == (2 : Int)))) (cnd (a.line == (43 : Int)) (K (AVal.bool (b.line != wr (a.line - (1 : Int))))) (cnd (a.line == (45 : Int)) (K (AVal.bool (b.line != wr (a.line - (1 :
  Int))))) (cnd (a.line == (60 : Int)) (K (AVal.bool (b.line == (61 : Int)))) (cnd (a.line == (62 : Int)) (K (AVal.bool (a.j == (0 : Int)))) (cnd (a.line == (37 : Int)) (K (AVal.bool (b.line == (0 :
  Int)))) (cnd (a.line == (41 : Int)) (K (AVal.bool true)) (cnd (a.line == (73 : Int)) (K (AVal.bool true)) (K (AVal.bool false)))))))))))) := by kernel_rfl


theorem vc_idle (K : AVal El → Prop) (x : Wk) : aexecF cnd cx noΓ noSpec 100 Tryz.f38 (codeOf Tryz.f38) (aWk.enc x) [] (fun y _ => K y) = ( K (AVal.bool (x.line == (0 : Int)))) := by kernel_rfl


end Go.Proofs.YtaeepogbgflbpaaGreat
end

/- The contracts of starting an operation, of linearization points and of well-formed tickets. No condition. -/
section
set_option linter.unusedVariables false
set_option linter.unusedSimpArgs false
set_option maxRecDepth 100000
set_option maxHeartbeats 1000000
namespace Go.Proofs.YtaeepogbgflbpaaGreat
open Go Go.Ax

theorem ok8 : GOk cx 8 (said aCU fun y => .bool (goodB y.1 y.2)) := said_ok (n := 100) ΓK_ok Tryz.func8 (by kernel_rfl) Tryz.call8 (fun ⟨c, t⟩ => by
  have e := vc_good (fun y => y = .bool (goodB c t)) c t
  refine Eq.mpr e ⟨trivial, trivial, ?_⟩
  clear e
  repeat' (refine cnd_intro (fun h => ?_) (fun h => ?_))
  all_goals simp only [beq_iff_eq, beq_eq_false_iff_ne, beq_true, decide_eq_true_eq, decide_eq_false_iff_not, ge_iff_le] at *
  all_goals simp_all [goodB]
  all_goals omega)
theorem ok38 : GOk cx 38 (said aWk fun x => .bool (x.line == 0)) := said_ok (n := 100) noΓ_ok Tryz.func38 (by kernel_rfl) Tryz.call38 (fun x => by
  have e := vc_idle (fun y => y = .bool (x.line == 0)) x
  exact Eq.mpr e rfl)
theorem ok42 : GOk cx 42 (said aWW fun y => .bool (pointB y.1 y.2)) := said_ok (n := 300) noΓ_ok Tryz.func42 (by kernel_rfl) Tryz.call42 (fun ⟨a, b⟩ => by
  have e := vc_point (fun y => y = .bool (pointB a b)) a b
  refine Eq.mpr e ?_
  clear e
  repeat' (refine cnd_intro (fun h => ?_) (fun h => ?_))
  all_goals simp only [beq_iff_eq, bne_iff_ne, beq_eq_false_iff_ne, bne_eq_false_iff_eq, beq_true, ne_eq] at *
  all_goals (refine congrArg AVal.bool ?_; simp only [pointB]; simp_all)
  all_goals (try (rw [Bool.eq_iff_iff]; simp)))
theorem ΓN1_ok : ∀ f g, ΓN1 f = some g → GOk cx f g := addΓ_ok (addΓ_ok ΓA1_ok ok8) (inl_ok noΓ_ok Tryz.func61 (body_of (by kernel_rfl)) Tryz.call61 60)
theorem ok51 : GOk cx 51 gBegin := plain_ok ΓN1_ok Tryz.func51 (body_of (by kernel_rfl)) Tryz.call51 (fun ⟨c, x, o, t⟩ hl => ⟨noSpec, 300, by
  have e := vc_begin (fun y => y = beginW (c, x, o, t)) c x o t
  refine Eq.mpr e ⟨trivial, ?_⟩
  clear e
  have q1 := hl.rack
  have q2 := hl.read
  have q3 := hl.sum
  simp only at q1 q2 q3
  have lim : ∀ y : Wk, y.rack = x.rack → y.read = [] → y.hold = x.hold → y.l0 = x.l0 → y.l1 = x.l1 → y.l2 = x.l2 → Lim 70000 y := fun y h1 h2 h3 h4 h5 h6 => ⟨by rw [h1]; omega, by rw [h2]; simp, by rw [h3, h4, h5, h6]; omega⟩
  have ht : (startX x o t).t = selZ (!asks o.k) 0 t := rfl
  have hp : (startX x o t).pin = x.pin := rfl
  have hb : (startX x o t).bor = x.bor := rfl
  repeat' first | refine And.intro trivial ?_ | refine And.intro (lim _ rfl rfl rfl rfl rfl rfl) ?_ | refine cnd_intro (fun h => ?_) (fun h => ?_)
  all_goals simp only [beq_iff_eq, beq_eq_false_iff_ne, beq_true, beq_false, Bool.not_eq_true', Bool.not_eq_false', decide_eq_true_eq, decide_eq_false_iff_not, ge_iff_le] at *
  all_goals simp only [beginW, begX, ht, hp, hb, sharedX]
  all_goals (repeat' split)
  all_goals first
    | rfl
    | (exfalso; simp_all; done)
    | (exfalso; simp_all; omega)⟩)
end Go.Proofs.YtaeepogbgflbpaaGreat
end

/- The hall as plain data, what its functions compute, and how it lies behind its pointer. No condition. -/
section
set_option linter.unusedVariables false
set_option linter.unusedSimpArgs false
set_option maxRecDepth 100000
namespace Go.Proofs.YtaeepogbgflbpaaGreat
open Go Go.Ax

/-- The tickets of eight workers. -/
structure Tk where
  t0 : List Int
  t1 : List Int
  t2 : List Int
  t3 : List Int
  t4 : List Int
  t5 : List Int
  t6 : List Int
  t7 : List Int
@[reducible] def Tk.with0 (x : Tk) (y : List Int) : Tk := { x with t0 := y }
@[reducible] def Tk.with1 (x : Tk) (y : List Int) : Tk := { x with t1 := y }
@[reducible] def Tk.with2 (x : Tk) (y : List Int) : Tk := { x with t2 := y }
@[reducible] def Tk.with3 (x : Tk) (y : List Int) : Tk := { x with t3 := y }
@[reducible] def Tk.with4 (x : Tk) (y : List Int) : Tk := { x with t4 := y }
@[reducible] def Tk.with5 (x : Tk) (y : List Int) : Tk := { x with t5 := y }
@[reducible] def Tk.with6 (x : Tk) (y : List Int) : Tk := { x with t6 := y }
@[reducible] def Tk.with7 (x : Tk) (y : List Int) : Tk := { x with t7 := y }
@[reducible] def Wr.with0 (x : Wr) (y : Wk) : Wr := { x with x := y }
@[reducible] def Wr.with1 (x : Wr) (y : List OpD) : Wr := { x with prog := y }
@[reducible] def Wr.with2 (x : Wr) (y : Int) : Wr := { x with next := y }
structure Hl where
  m : Md
  l : List Wr
  ev : List Ev
  tick : Int
  told : Tk
@[reducible] def Hl.with0 (x : Hl) (y : Md) : Hl := { x with m := y }
@[reducible] def Hl.with1 (x : Hl) (y : List Wr) : Hl := { x with l := y }
@[reducible] def Hl.with2 (x : Hl) (y : List Ev) : Hl := { x with ev := y }
@[reducible] def Hl.with3 (x : Hl) (y : Int) : Hl := { x with tick := y }
@[reducible] def Hl.with4 (x : Hl) (y : Tk) : Hl := { x with told := y }
def encH (h : Hl) : List (Res El) := [.cells 63 [.ptr 1 0, .vec 2, .vec 3, .int .i64 h.tick], .cells 103 (cdHdr.enc (h.m.c, h.m.seen) ++ [.vec 4]), .recs 59 h.l 35 [.vec 5, .vec 6, .vec 7, .vec 8, .vec 9, .vec 10, .vec 11, .vec 12],
  .vec 45 h.ev, .vec 22 h.m.ws, .vec 22 h.told.t0, .vec 22 h.told.t1, .vec 22 h.told.t2, .vec 22 h.told.t3, .vec 22 h.told.t4, .vec 22 h.told.t5, .vec 22 h.told.t6, .vec 22 h.told.t7]
/-- A slice of the run's own, of the elements that are asked for. -/
def asVec (t : TypeId) : Res El → Option (List (El t))
  | .vec t' xs => match Nat.decEq t' t with
    | .isTrue h => some (h ▸ xs)
    | .isFalse _ => none
  | _ => none
theorem asVec_ok {t : TypeId} {x : Res El} {xs : List (El t)} (h : asVec t x = some xs) : x = .vec t xs := by
  unfold asVec at h
  split at h
  · split at h
    · rename_i e _; subst e; cases h; rfl
    · cases h
  · cases h
def decH (R : List (Res El)) : Option Hl := match R with
  | [.cells t0 c0, .cells t1 c1, .recs t2 l k nm, r3, r4, r5, r6, r7, r8, r9, r10, r11, r12] =>
    match Nat.decEq t0 63, Nat.decEq t1 103, Nat.decEq t2 59, Nat.decEq k 35, c0, cdHdr.dec false c1, nm with
    | .isTrue _, .isTrue _, .isTrue h, .isTrue _, [.ptr 1 0, .vec 2, .vec 3, .int .i64 tick], some (x, [.vec 4]), [.vec 5, .vec 6, .vec 7, .vec 8, .vec 9, .vec 10, .vec 11, .vec 12] =>
      match asVec 45 r3, asVec 22 r4, asVec 22 r5, asVec 22 r6, asVec 22 r7, asVec 22 r8 with
      | some ev, some ws, some t0, some t1, some t2, some t3 => match asVec 22 r9, asVec 22 r10, asVec 22 r11, asVec 22 r12 with
        | some t4, some t5, some t6, some t7 => some ⟨⟨x.1, x.2, ws⟩, (h ▸ l : List (El 59)), ev, tick, ⟨t0, t1, t2, t3, t4, t5, t6, t7⟩⟩
        | _, _, _, _ => none
      | _, _, _, _, _, _ => none
    | _, _, _, _, _, _, _ => none
  | _ => none
theorem decH_ok (R : List (Res El)) (h : Hl) (hd : decH R = some h) : R = encH h := by
  unfold decH at hd
  split at hd
  · rename_i t0 c0 t1 c1 t2 l k nm r3 r4 r5 r6 r7 r8 r9 r10 r11 r12
    split at hd
    · rename_i e0 e1 e2 e3 tick x q0 q1 q2 q3 q4
      subst e0; subst e1; subst e2; subst e3
      split at hd
      · rename_i ev ws a0 a1 a2 a3 g3 g4 g5 g6 g7 g8
        split at hd
        · rename_i a4 a5 a6 a7 g9 g10 g11 g12
          cases hd
          rw [asVec_ok g3, asVec_ok g4, asVec_ok g5, asVec_ok g6, asVec_ok g7, asVec_ok g8, asVec_ok g9, asVec_ok g10, asVec_ok g11, asVec_ok g12, cdHdr.strict _ _ _ q4]
          rfl
        · cases hd
      · cases hd
    · cases hd
  · cases hd
def GH : Gr El Hl where
  gr := encH
  dec := decH
  dec_ok := decH_ok
  n := 13
  fuel := 60
  len _ := rfl
  live s q hq := by
    have : q = 0 ∨ q = 1 ∨ q = 2 ∨ q = 3 ∨ q = 4 ∨ q = 5 ∨ q = 6 ∨ q = 7 ∨ q = 8 ∨ q = 9 ∨ q = 10 ∨ q = 11 ∨ q = 12 := by omega
    rcases this with rfl | rfl | rfl | rfl | rfl | rfl | rfl | rfl | rfl | rfl | rfl | rfl | rfl <;> (intro h; cases h)
  refs s := rfl
  keep q := match q with
    | 0 => true
    | 1 => true
    | 2 => true
    | 4 => true
    | _ => false
  pos := by decide
  root := rfl

def wrAt (h : Hl) (w : Int) : Wr := h.l.getD w.toNat (K.dflt (tab 59))
def isW (h : Hl) (w : Int) : Bool := decide (0 ≤ w ∧ w < (h.l.length : Int))
def getT (t : Tk) (w : Int) : List Int := if w = 0 then t.t0 else if w = 1 then t.t1 else if w = 2 then t.t2 else if w = 3 then t.t3 else if w = 4 then t.t4 else if w = 5 then t.t5 else if w = 6 then t.t6 else t.t7
def setT8 (t : Tk) (w : Int) (l : List Int) : Tk := if w = 0 then { t with t0 := l } else if w = 1 then { t with t1 := l } else if w = 2 then { t with t2 := l } else if w = 3 then { t with t3 := l } else if w = 4 then { t with t4 := l } else
  if w = 5 then { t with t5 := l } else if w = 6 then { t with t6 := l } else { t with t7 := l }
def setX (h : Hl) (w : Int) (x : Wk) : Hl := { h with l := h.l.set w.toNat { wrAt h w with x := x } }
/-- The hall's lists are of bearable length. -/
structure Fine (h : Hl) : Prop where
  l : h.l.length ≤ 8
  ev : h.ev.length ≤ 100000
  told : ∀ w, (getT h.told w).length ≤ 50000
  lim : ∀ w, Lim 50000 (wrAt h w).x
  b : 1 ≤ h.m.c.b ∧ h.m.c.b ≤ 16
  prog : ∀ w, 0 ≤ (wrAt h w).next ∧ (wrAt h w).prog.length ≤ 1000
  ops : ∀ w, ∀ o ∈ (wrAt h w).prog, rightB o = true
def toldH (h : Hl) (w : Int) : List Int := if isW h w = true then getT h.told w else []
def ticketH (h : Hl) (o : OpD) : Int := if o.u = true then (if o.n < ((toldH h o.b).length : Int) then (toldH h o.b).getD o.n.toNat 0 else 0) else o.t
def evOf (h : Hl) (w kind : Int) (a : Acc) (line : Int) : Ev := ⟨h.tick, w, wr ((wrAt h w).next - 1), kind, ⟨(wrAt h w).x.op, (wrAt h w).x.t, (wrAt h w).x.ret, if kind = 4 then (wrAt h w).x.read else []⟩, line, a⟩
def noteH (h : Hl) (w kind : Int) (a : Acc) (line : Int) : Hl := { h with ev := h.ev ++ [evOf h w kind a line] }
def overH (h : Hl) (w : Int) : Hl := if (wrAt h w).x.op.k = 3 ∧ (wrAt h w).x.ret = 0 then noteH { h with told := setT8 h.told w (getT h.told w ++ [(wrAt h w).x.t]) } w 4 acc0 0 else noteH h w 4 acc0 0
def nextOp (h : Hl) (w : Int) : OpD := (wrAt h w).prog.getD (wrAt h w).next.toNat (K.dflt (tab 38))
/-- A worker's next operation, counted. -/
def bg0 (h : Hl) (w : Int) : Hl := { h with l := h.l.set w.toNat { wrAt h w with next := wr ((wrAt h w).next + 1) } }
/-- Started. -/
def bg1 (h : Hl) (w : Int) : Hl := setX (bg0 h w) w (beginW (h.m.c, (wrAt (bg0 h w) w).x, nextOp h w, ticketH (bg0 h w) (nextOp h w)))
def bl0 (h : Hl) (w : Int) : List Wr := h.l.set w.toNat { wrAt h w with next := wr ((wrAt h w).next + 1) }
def bw0 (h : Hl) (w : Int) : Wr := (bl0 h w).getD w.toNat (K.dflt (tab 59))
def bx1 (h : Hl) (w : Int) : Wk := beginW (h.m.c, (bw0 h w).x, nextOp h w, ticketH (bg0 h w) (nextOp h w))
def bl1 (h : Hl) (w : Int) : List Wr := (bl0 h w).set w.toNat { bw0 h w with x := bx1 h w }
def bw1 (h : Hl) (w : Int) : Wr := (bl1 h w).getD w.toNat (K.dflt (tab 59))
def bl2 (h : Hl) (w : Int) : List Wr := (bl1 h w).set w.toNat { bw1 h w with x := { (bw1 h w).x with ret := 0 } }
def bw2 (h : Hl) (w : Int) : Wr := (bl2 h w).getD w.toNat (K.dflt (tab 59))
def bl4 (h : Hl) (w : Int) : List Wr := (bl2 h w).set w.toNat { bw2 h w with x := { (bw2 h w).x with ret := (bw1 h w).x.ret } }
/-- Without its result. -/
def bg2 (h : Hl) (w : Int) : Hl := setX (bg1 h w) w { (wrAt (bg1 h w) w).x with ret := 0 }
/-- Noted. -/
def bg3 (h : Hl) (w : Int) : Hl := noteH (bg2 h w) w 1 acc0 0
/-- With its result. -/
def bg4 (h : Hl) (w : Int) : Hl := setX (bg3 h w) w { (wrAt (bg3 h w) w).x with ret := (wrAt (bg1 h w) w).x.ret }
def bg5 (h : Hl) (w : Int) : Hl := noteH (bg4 h w) w 3 acc0 0
def beginH (h : Hl) (w : Int) : Hl := if ((wrAt h w).prog.length : Int) ≤ (wrAt h w).next then h else if (wrAt (bg4 h w) w).x.line = 0 then overH (bg5 h w) w else bg4 h w
/-- One pick later. -/
def pk0 (h : Hl) : Hl := { h with tick := wr (h.tick + 1) }
/-- The step. -/
def pkS (h : Hl) (w : Int) : Md × Wk := workS h.m w (wrAt h w).x
/-- Behind the step. -/
def pk1 (h : Hl) (w : Int) : Hl := setX { h with m := (pkS h w).1, tick := wr (h.tick + 1) } w (pkS h w).2
/-- Noted. -/
def pk2 (h : Hl) (w : Int) : Hl := noteH (pk1 h w) w 2 (pkS h w).1.seen (wrAt h w).x.line
/-- The point, noted. -/
def pk3 (h : Hl) (w : Int) : Hl := noteH (pk2 h w) w 3 acc0 0
def pointed (h : Hl) (w : Int) : Bool := pointB (wrAt h w).x (pkS h w).2
def pickH (h : Hl) (w : Int) : Hl := if isW h w = false then pk0 h else if (wrAt h w).x.line = 0 then beginH (pk0 h) w else
  if pointed h w = true then (if (pkS h w).2.line = 0 then overH (pk3 h w) w else pk3 h w) else (if (pkS h w).2.line = 0 then overH (pk2 h w) w else pk2 h w)
abbrev aNote : Cd El (Int × Int × Acc × Int) := .pair aI (.pair aI (.pair (Cd.agg cdAcc) aI))
noncomputable def ΓP0 : FuncId → Option (GSpec El) := addΓ ΓR2 14 (inl cx noΓ 60 Tryz.f14 (codeOf Tryz.f14))
def ToldOk (h : Hl) : Prop := h.l.length ≤ 8 ∧ ∀ w, (getT h.told w).length ≤ 60000
noncomputable def gTold : GSpec El := gread GH aI aW (fun h w => ToldOk h) toldH
noncomputable def gNote : GSpec El := gcall GH aNote .unit (fun h y => isW h y.1 = true ∧ small (wrAt h y.1).x.read ∧ h.ev.length ≤ 110000) (fun h y => (noteH h y.1 y.2.1 y.2.2.1 y.2.2.2, ()))
noncomputable def ΓP1 : FuncId → Option (GSpec El) := addΓ (addΓ ΓP0 7 gTold) 41 gNote
noncomputable def gTicket : GSpec El := gread GH aOp aU (fun h o => ToldOk h ∧ (o.u = true → 0 ≤ o.n)) ticketH
noncomputable def gOver : GSpec El := gcall GH aI .unit (fun h w => ToldOk h ∧ isW h w = true ∧ small (wrAt h w).x.read ∧ h.ev.length ≤ 110000) (fun h w => (overH h w, ()))
noncomputable def ΓP2 : FuncId → Option (GSpec El) := addΓ (addΓ (addΓ (addΓ (addΓ (addΓ ΓP1 52 gTicket) 43 gOver) 51 gBegin) 38 (said aWk fun x => .bool (x.line == 0))) 42 (said aWW fun y => .bool (pointB y.1 y.2))) 40 gStep
noncomputable def gBeginH : GSpec El := gcall GH aI .unit (fun h w => Fine h ∧ isW h w = true) (fun h w => (beginH h w, ()))
noncomputable def ΓP3 : FuncId → Option (GSpec El) := addΓ ΓP2 39 gBeginH
noncomputable def gPick : GSpec El := gcall GH aI .unit (fun h w => Fine h ∧ (isW h w = true → okLine (wrAt h w).x ∨ (wrAt h w).x.line = 0)) (fun h w => (pickH h w, ()))
end Go.Proofs.YtaeepogbgflbpaaGreat
end

/- What the hall's functions come to, printed. No condition. -/
section
set_option linter.unusedVariables false
set_option linter.unusedSimpArgs false
set_option maxRecDepth 100000
set_option maxHeartbeats 4000000
namespace Go.Proofs.YtaeepogbgflbpaaGreat
open Go Go.Ax

theorem vc_told (K : Hl → (List Int) → Prop) (h : Hl) (w : Int) : aexecF cnd cx ΓP0 noSpec 200 Tryz.f7 (codeOf Tryz.f7) (.ptr 0 0 :: aI.enc w) (GH.gr h) (fun y R => rdG GH.all aW y R K) = ( cnd
  (decide (w ≥ (0 : Int)) == true) (cnd (!decide (w < (↑(List.length h.l) : Int))) (K h []) (((0 : Int) ≤ w ∧ w < (↑(List.length h.l) : Int)) ∧ Int.toNat w < List.length h.l ∧ cnd (decide (Int.toNat w =
  (0 : Nat))) (small h.told.t0 ∧ K h (id h.told.t0)) (cnd (decide (Int.toNat w = (0 : Nat) + (1 : Nat))) (small h.told.t1 ∧ K h (id h.told.t1)) (cnd (decide (Int.toNat w = (0 : Nat) + (1 : Nat) + (1 :
  Nat))) (small h.told.t2 ∧ K h (id h.told.t2)) (cnd (decide (Int.toNat w = (0 : Nat) + (1 : Nat) + (1 : Nat) + (1 : Nat))) (small h.told.t3 ∧ K h (id h.told.t3)) (cnd (decide (Int.toNat w = (0 : Nat) +
  (1 : Nat) + (1 : Nat) + (1 : Nat) + (1 : Nat))) (small h.told.t4 ∧ K h (id h.told.t4)) (cnd (decide (Int.toNat w = (0 : Nat) + (1 : Nat) + (1 : Nat) + (1 : Nat) + (1 : Nat) + (1 : Nat))) (small
  h.told.t5 ∧ K h (id h.told.t5)) (cnd (decide (Int.toNat w = (0 : Nat) + (1 : Nat) + (1 : Nat) + (1 : Nat) + (1 : Nat) + (1 : Nat) + (1 : Nat))) (small h.told.t6 ∧ K h (id h.told.t6)) (cnd (decide
  (Int.toNat w = (0 : Nat) + (1 : Nat) + (1 : Nat) + (1 : Nat) + (1 : Nat) + (1 : Nat) + (1 : Nat) + (1 : Nat))) (small h.told.t7 ∧ K h (id h.told.t7)) (Nat.le (0 : Nat) (100000 : Nat) ∧ K h (id
  []))))))))))) (K h [])) := by kernel_rfl


theorem vc_note (K : Hl → Unit → Prop) (h : Hl) (w k : Int) (a : Acc) (l : Int) : aexecF cnd cx ΓP0 noSpec 200 Tryz.f41 (codeOf Tryz.f41) (.ptr 0 0 :: aNote.enc (w, k, a, l)) (GH.gr h) (fun y R => rdG
  GH Cd.unit y R K) = ( ((0 : Int) ≤ w ∧ w < (↑(List.length h.l) : Int)) ∧ Int.toNat w < List.length h.l ∧ ((0 : Int) ≤ w ∧ w < (↑(List.length h.l) : Int)) ∧ Int.toNat w < List.length h.l ∧ ((0 : Int) ≤
  w ∧ w < (↑(List.length h.l) : Int)) ∧ Int.toNat w < List.length h.l ∧ cnd (k == (4 : Int)) (small (wrAt h w).x.read ∧ ((List.length h.ev + List.length [Ev.mk h.tick w (wr ((wrAt h w).next - (1 :
  Int))) k (Ans.mk (wrAt h w).x.op (wrAt h w).x.t (wrAt h w).x.ret (id (wrAt h w).x.read)) l a]) * (176 : Nat) ≤ (140737488355328 : Nat) ∧ List.length h.ev + List.length [Ev.mk h.tick w (wr ((wrAt h
  w).next - (1 : Int))) k (Ans.mk (wrAt h w).x.op (wrAt h w).x.t (wrAt h w).x.ret (id (wrAt h w).x.read)) l a] ≤ (140737488355328 : Nat)) ∧ K (Hl.with2 h (h.ev ++ [Ev.mk h.tick w (wr ((wrAt h w).next -
  (1 : Int))) k (Ans.mk (wrAt h w).x.op (wrAt h w).x.t (wrAt h w).x.ret (id (wrAt h w).x.read)) l a])) ()) (((List.length h.ev + List.length [Ev.mk h.tick w (wr ((wrAt h w).next - (1 : Int))) k (Ans.mk
  (wrAt h w).x.op (wrAt h w).x.t (wrAt h w).x.ret []) l a]) * (176 : Nat) ≤ (140737488355328 : Nat) ∧ List.length h.ev + List.length [Ev.mk h.tick w (wr ((wrAt h w).next - (1 : Int))) k (Ans.mk (wrAt h
  w).x.op (wrAt h w).x.t (wrAt h w).x.ret []) l a] ≤ (140737488355328 : Nat)) ∧ K (Hl.with2 h (h.ev ++ [Ev.mk h.tick w (wr ((wrAt h w).next - (1 : Int))) k (Ans.mk (wrAt h w).x.op (wrAt h w).x.t (wrAt h
  w).x.ret []) l a])) ())) := by kernel_rfl


theorem vc_hticket (K : Hl → Int → Prop) (h : Hl) (o : OpD) : aexecF cnd cx ΓP1 noSpec 200 Tryz.f52 (codeOf Tryz.f52) (.ptr 0 0 :: aOp.enc o) (GH.gr h) (fun y R => rdG
  GH.all aU y R K) = ( cnd (!o.u) (K h o.t) ((List.length h.l ≤ (8 : Nat) ∧ ∀ (w : Int), List.length (getT h.told w) ≤ (60000 : Nat)) ∧ cnd (decide (o.n < (↑(List.length
  (toldH h o.b)) : Int))) (((0 : Int) ≤ o.n ∧ o.n < (↑(List.length (toldH h o.b)) : Int)) ∧ K h (List.getD (toldH h o.b) (Int.toNat o.n) (0 : Int))) (K h (0 : Int)))) := by
  kernel_rfl


theorem vc_over0 (K : Hl → Unit → Prop) (h : Hl) : aexecF cnd cx ΓP1 noSpec 200 Tryz.f43 (codeOf Tryz.f43) (.ptr 0 0 :: aI.enc 0) (GH.gr h) (fun y R => rdG GH Cd.unit y R K) = ( ((0 : Int) ≤ (0 : Int)
  ∧ (0 : Int) < (↑(List.length h.l) : Int)) ∧ (0 : Nat) < List.length h.l ∧ cnd (((List.getD h.l (0 : Nat) (YtaeepogbgflbpaaGreat.K.dflt (tab (59 : TypeId)))).x.op.k == (3 : Int)) == true) ((0 : Nat) <
  List.length h.l ∧ cnd ((List.getD h.l (0 : Nat) (YtaeepogbgflbpaaGreat.K.dflt (tab (59 : TypeId)))).x.ret == (0 : Int)) ((0 : Nat) < List.length h.l ∧ (0 : Nat) < List.length h.l ∧ (0 : Nat) <
  List.length h.l ∧ (0 : Nat) < List.length h.l ∧ ((List.length h.told.t0 + List.length [(List.getD h.l (0 : Nat) (YtaeepogbgflbpaaGreat.K.dflt (tab (59 : TypeId)))).x.t]) * (8 : Nat) ≤ (140737488355328
  : Nat) ∧ List.length h.told.t0 + List.length [(List.getD h.l (0 : Nat) (YtaeepogbgflbpaaGreat.K.dflt (tab (59 : TypeId)))).x.t] ≤ (140737488355328 : Nat)) ∧ (0 : Nat) < List.length h.l ∧ (isW
  (Hl.with4 h (Tk.with0 h.told (h.told.t0 ++ [(List.getD h.l (0 : Nat) (YtaeepogbgflbpaaGreat.K.dflt (tab (59 : TypeId)))).x.t]))) (0 : Int) = true ∧ small (wrAt (Hl.with4 h (Tk.with0 h.told (h.told.t0
  ++ [(List.getD h.l (0 : Nat) (YtaeepogbgflbpaaGreat.K.dflt (tab (59 : TypeId)))).x.t]))) 0).x.read ∧ List.length h.ev ≤ (110000 : Nat)) ∧ K (Hl.with4 (Hl.with2 h (h.ev ++ [evOf (Hl.with4 h (Tk.with0
  h.told (h.told.t0 ++ [(List.getD h.l (0 : Nat) (YtaeepogbgflbpaaGreat.K.dflt (tab (59 : TypeId)))).x.t]))) (0 : Int) (4 : Int) (Acc.mk 0 0 0 0 0) (0 : Int)])) (Tk.with0 h.told (h.told.t0 ++
  [(List.getD h.l (0 : Nat) (YtaeepogbgflbpaaGreat.K.dflt (tab (59 : TypeId)))).x.t]))) ()) ((isW h (0 : Int) = true ∧ small (wrAt h 0).x.read ∧ List.length h.ev ≤ (110000 : Nat)) ∧ K (Hl.with2 h (h.ev
  ++ [evOf h (0 : Int) (4 : Int) (Acc.mk 0 0 0 0 0) (0 : Int)])) ())) ((isW h (0 : Int) = true ∧ small (wrAt h 0).x.read ∧ List.length h.ev ≤ (110000 : Nat)) ∧ K (Hl.with2 h (h.ev ++ [evOf h (0 : Int)
  (4 : Int) (Acc.mk 0 0 0 0 0) (0 : Int)])) ())) := by kernel_rfl


theorem vc_over1 (K : Hl → Unit → Prop) (h : Hl) : aexecF cnd cx ΓP1 noSpec 200 Tryz.f43 (codeOf Tryz.f43) (.ptr 0 0 :: aI.enc 1) (GH.gr h) (fun y R => rdG GH Cd.unit y R K) = ( ((0 : Int) ≤ (1 : Int)
  ∧ (1 : Int) < (↑(List.length h.l) : Int)) ∧ (1 : Nat) < List.length h.l ∧ cnd (((List.getD h.l (1 : Nat) (YtaeepogbgflbpaaGreat.K.dflt (tab (59 : TypeId)))).x.op.k == (3 : Int)) == true) ((1 : Nat) <
  List.length h.l ∧ cnd ((List.getD h.l (1 : Nat) (YtaeepogbgflbpaaGreat.K.dflt (tab (59 : TypeId)))).x.ret == (0 : Int)) ((1 : Nat) < List.length h.l ∧ (1 : Nat) < List.length h.l ∧ (1 : Nat) <
  List.length h.l ∧ (1 : Nat) < List.length h.l ∧ ((List.length h.told.t1 + List.length [(List.getD h.l (1 : Nat) (YtaeepogbgflbpaaGreat.K.dflt (tab (59 : TypeId)))).x.t]) * (8 : Nat) ≤ (140737488355328
  : Nat) ∧ List.length h.told.t1 + List.length [(List.getD h.l (1 : Nat) (YtaeepogbgflbpaaGreat.K.dflt (tab (59 : TypeId)))).x.t] ≤ (140737488355328 : Nat)) ∧ (1 : Nat) < List.length h.l ∧ (isW
  (Hl.with4 h (Tk.with1 h.told (h.told.t1 ++ [(List.getD h.l (1 : Nat) (YtaeepogbgflbpaaGreat.K.dflt (tab (59 : TypeId)))).x.t]))) (1 : Int) = true ∧ small (wrAt (Hl.with4 h (Tk.with1 h.told (h.told.t1
  ++ [(List.getD h.l (1 : Nat) (YtaeepogbgflbpaaGreat.K.dflt (tab (59 : TypeId)))).x.t]))) 1).x.read ∧ List.length h.ev ≤ (110000 : Nat)) ∧ K (Hl.with4 (Hl.with2 h (h.ev ++ [evOf (Hl.with4 h (Tk.with1
  h.told (h.told.t1 ++ [(List.getD h.l (1 : Nat) (YtaeepogbgflbpaaGreat.K.dflt (tab (59 : TypeId)))).x.t]))) (1 : Int) (4 : Int) (Acc.mk 0 0 0 0 0) (0 : Int)])) (Tk.with1 h.told (h.told.t1 ++
  [(List.getD h.l (1 : Nat) (YtaeepogbgflbpaaGreat.K.dflt (tab (59 : TypeId)))).x.t]))) ()) ((isW h (1 : Int) = true ∧ small (wrAt h 1).x.read ∧ List.length h.ev ≤ (110000 : Nat)) ∧ K (Hl.with2 h (h.ev
  ++ [evOf h (1 : Int) (4 : Int) (Acc.mk 0 0 0 0 0) (0 : Int)])) ())) ((isW h (1 : Int) = true ∧ small (wrAt h 1).x.read ∧ List.length h.ev ≤ (110000 : Nat)) ∧ K (Hl.with2 h (h.ev ++ [evOf h (1 : Int)
  (4 : Int) (Acc.mk 0 0 0 0 0) (0 : Int)])) ())) := by kernel_rfl


theorem vc_over2 (K : Hl → Unit → Prop) (h : Hl) : aexecF cnd cx ΓP1 noSpec 200 Tryz.f43 (codeOf Tryz.f43) (.ptr 0 0 :: aI.enc 2) (GH.gr h) (fun y R => rdG GH Cd.unit y R K) = ( ((0 : Int) ≤ (2 : Int)
  ∧ (2 : Int) < (↑(List.length h.l) : Int)) ∧ (2 : Nat) < List.length h.l ∧ cnd (((List.getD h.l (2 : Nat) (YtaeepogbgflbpaaGreat.K.dflt (tab (59 : TypeId)))).x.op.k == (3 : Int)) == true) ((2 : Nat) <
  List.length h.l ∧ cnd ((List.getD h.l (2 : Nat) (YtaeepogbgflbpaaGreat.K.dflt (tab (59 : TypeId)))).x.ret == (0 : Int)) ((2 : Nat) < List.length h.l ∧ (2 : Nat) < List.length h.l ∧ (2 : Nat) <
  List.length h.l ∧ (2 : Nat) < List.length h.l ∧ ((List.length h.told.t2 + List.length [(List.getD h.l (2 : Nat) (YtaeepogbgflbpaaGreat.K.dflt (tab (59 : TypeId)))).x.t]) * (8 : Nat) ≤ (140737488355328
  : Nat) ∧ List.length h.told.t2 + List.length [(List.getD h.l (2 : Nat) (YtaeepogbgflbpaaGreat.K.dflt (tab (59 : TypeId)))).x.t] ≤ (140737488355328 : Nat)) ∧ (2 : Nat) < List.length h.l ∧ (isW
  (Hl.with4 h (Tk.with2 h.told (h.told.t2 ++ [(List.getD h.l (2 : Nat) (YtaeepogbgflbpaaGreat.K.dflt (tab (59 : TypeId)))).x.t]))) (2 : Int) = true ∧ small (wrAt (Hl.with4 h (Tk.with2 h.told (h.told.t2
  ++ [(List.getD h.l (2 : Nat) (YtaeepogbgflbpaaGreat.K.dflt (tab (59 : TypeId)))).x.t]))) 2).x.read ∧ List.length h.ev ≤ (110000 : Nat)) ∧ K (Hl.with4 (Hl.with2 h (h.ev ++ [evOf (Hl.with4 h (Tk.with2
  h.told (h.told.t2 ++ [(List.getD h.l (2 : Nat) (YtaeepogbgflbpaaGreat.K.dflt (tab (59 : TypeId)))).x.t]))) (2 : Int) (4 : Int) (Acc.mk 0 0 0 0 0) (0 : Int)])) (Tk.with2 h.told (h.told.t2 ++
  [(List.getD h.l (2 : Nat) (YtaeepogbgflbpaaGreat.K.dflt (tab (59 : TypeId)))).x.t]))) ()) ((isW h (2 : Int) = true ∧ small (wrAt h 2).x.read ∧ List.length h.ev ≤ (110000 : Nat)) ∧ K (Hl.with2 h (h.ev
  ++ [evOf h (2 : Int) (4 : Int) (Acc.mk 0 0 0 0 0) (0 : Int)])) ())) ((isW h (2 : Int) = true ∧ small (wrAt h 2).x.read ∧ List.length h.ev ≤ (110000 : Nat)) ∧ K (Hl.with2 h (h.ev ++ [evOf h (2 : Int)
  (4 : Int) (Acc.mk 0 0 0 0 0) (0 : Int)])) ())) := by kernel_rfl


theorem vc_over3 (K : Hl → Unit → Prop) (h : Hl) : aexecF cnd cx ΓP1 noSpec 200 Tryz.f43 (codeOf Tryz.f43) (.ptr 0 0 :: aI.enc 3) (GH.gr h) (fun y R => rdG GH Cd.unit y R K) = ( ((0 : Int) ≤ (3 : Int)
  ∧ (3 : Int) < (↑(List.length h.l) : Int)) ∧ (3 : Nat) < List.length h.l ∧ cnd (((List.getD h.l (3 : Nat) (YtaeepogbgflbpaaGreat.K.dflt (tab (59 : TypeId)))).x.op.k == (3 : Int)) == true) ((3 : Nat) <
  List.length h.l ∧ cnd ((List.getD h.l (3 : Nat) (YtaeepogbgflbpaaGreat.K.dflt (tab (59 : TypeId)))).x.ret == (0 : Int)) ((3 : Nat) < List.length h.l ∧ (3 : Nat) < List.length h.l ∧ (3 : Nat) <
  List.length h.l ∧ (3 : Nat) < List.length h.l ∧ ((List.length h.told.t3 + List.length [(List.getD h.l (3 : Nat) (YtaeepogbgflbpaaGreat.K.dflt (tab (59 : TypeId)))).x.t]) * (8 : Nat) ≤ (140737488355328
  : Nat) ∧ List.length h.told.t3 + List.length [(List.getD h.l (3 : Nat) (YtaeepogbgflbpaaGreat.K.dflt (tab (59 : TypeId)))).x.t] ≤ (140737488355328 : Nat)) ∧ (3 : Nat) < List.length h.l ∧ (isW
  (Hl.with4 h (Tk.with3 h.told (h.told.t3 ++ [(List.getD h.l (3 : Nat) (YtaeepogbgflbpaaGreat.K.dflt (tab (59 : TypeId)))).x.t]))) (3 : Int) = true ∧ small (wrAt (Hl.with4 h (Tk.with3 h.told (h.told.t3
  ++ [(List.getD h.l (3 : Nat) (YtaeepogbgflbpaaGreat.K.dflt (tab (59 : TypeId)))).x.t]))) 3).x.read ∧ List.length h.ev ≤ (110000 : Nat)) ∧ K (Hl.with4 (Hl.with2 h (h.ev ++ [evOf (Hl.with4 h (Tk.with3
  h.told (h.told.t3 ++ [(List.getD h.l (3 : Nat) (YtaeepogbgflbpaaGreat.K.dflt (tab (59 : TypeId)))).x.t]))) (3 : Int) (4 : Int) (Acc.mk 0 0 0 0 0) (0 : Int)])) (Tk.with3 h.told (h.told.t3 ++
  [(List.getD h.l (3 : Nat) (YtaeepogbgflbpaaGreat.K.dflt (tab (59 : TypeId)))).x.t]))) ()) ((isW h (3 : Int) = true ∧ small (wrAt h 3).x.read ∧ List.length h.ev ≤ (110000 : Nat)) ∧ K (Hl.with2 h (h.ev
  ++ [evOf h (3 : Int) (4 : Int) (Acc.mk 0 0 0 0 0) (0 : Int)])) ())) ((isW h (3 : Int) = true ∧ small (wrAt h 3).x.read ∧ List.length h.ev ≤ (110000 : Nat)) ∧ K (Hl.with2 h (h.ev ++ [evOf h (3 : Int)
  (4 : Int) (Acc.mk 0 0 0 0 0) (0 : Int)])) ())) := by kernel_rfl


theorem vc_over4 (K : Hl → Unit → Prop) (h : Hl) : aexecF cnd cx ΓP1 noSpec 200 Tryz.f43 (codeOf Tryz.f43) (.ptr 0 0 :: aI.enc 4) (GH.gr h) (fun y R => rdG GH Cd.unit y R K) = ( ((0 : Int) ≤ (4 : Int)
  ∧ (4 : Int) < (↑(List.length h.l) : Int)) ∧ (4 : Nat) < List.length h.l ∧ cnd (((List.getD h.l (4 : Nat) (YtaeepogbgflbpaaGreat.K.dflt (tab (59 : TypeId)))).x.op.k == (3 : Int)) == true) ((4 : Nat) <
  List.length h.l ∧ cnd ((List.getD h.l (4 : Nat) (YtaeepogbgflbpaaGreat.K.dflt (tab (59 : TypeId)))).x.ret == (0 : Int)) ((4 : Nat) < List.length h.l ∧ (4 : Nat) < List.length h.l ∧ (4 : Nat) <
  List.length h.l ∧ (4 : Nat) < List.length h.l ∧ ((List.length h.told.t4 + List.length [(List.getD h.l (4 : Nat) (YtaeepogbgflbpaaGreat.K.dflt (tab (59 : TypeId)))).x.t]) * (8 : Nat) ≤ (140737488355328
  : Nat) ∧ List.length h.told.t4 + List.length [(List.getD h.l (4 : Nat) (YtaeepogbgflbpaaGreat.K.dflt (tab (59 : TypeId)))).x.t] ≤ (140737488355328 : Nat)) ∧ (4 : Nat) < List.length h.l ∧ (isW
  (Hl.with4 h (Tk.with4 h.told (h.told.t4 ++ [(List.getD h.l (4 : Nat) (YtaeepogbgflbpaaGreat.K.dflt (tab (59 : TypeId)))).x.t]))) (4 : Int) = true ∧ small (wrAt (Hl.with4 h (Tk.with4 h.told (h.told.t4
  ++ [(List.getD h.l (4 : Nat) (YtaeepogbgflbpaaGreat.K.dflt (tab (59 : TypeId)))).x.t]))) 4).x.read ∧ List.length h.ev ≤ (110000 : Nat)) ∧ K (Hl.with4 (Hl.with2 h (h.ev ++ [evOf (Hl.with4 h (Tk.with4
  h.told (h.told.t4 ++ [(List.getD h.l (4 : Nat) (YtaeepogbgflbpaaGreat.K.dflt (tab (59 : TypeId)))).x.t]))) (4 : Int) (4 : Int) (Acc.mk 0 0 0 0 0) (0 : Int)])) (Tk.with4 h.told (h.told.t4 ++
  [(List.getD h.l (4 : Nat) (YtaeepogbgflbpaaGreat.K.dflt (tab (59 : TypeId)))).x.t]))) ()) ((isW h (4 : Int) = true ∧ small (wrAt h 4).x.read ∧ List.length h.ev ≤ (110000 : Nat)) ∧ K (Hl.with2 h (h.ev
  ++ [evOf h (4 : Int) (4 : Int) (Acc.mk 0 0 0 0 0) (0 : Int)])) ())) ((isW h (4 : Int) = true ∧ small (wrAt h 4).x.read ∧ List.length h.ev ≤ (110000 : Nat)) ∧ K (Hl.with2 h (h.ev ++ [evOf h (4 : Int)
  (4 : Int) (Acc.mk 0 0 0 0 0) (0 : Int)])) ())) := by kernel_rfl


theorem vc_over5 (K : Hl → Unit → Prop) (h : Hl) : aexecF cnd cx ΓP1 noSpec 200 Tryz.f43 (codeOf Tryz.f43) (.ptr 0 0 :: aI.enc 5) (GH.gr h) (fun y R => rdG GH Cd.unit y R K) = ( ((0 : Int) ≤ (5 : Int)
  ∧ (5 : Int) < (↑(List.length h.l) : Int)) ∧ (5 : Nat) < List.length h.l ∧ cnd (((List.getD h.l (5 : Nat) (YtaeepogbgflbpaaGreat.K.dflt (tab (59 : TypeId)))).x.op.k == (3 : Int)) == true) ((5 : Nat) <
  List.length h.l ∧ cnd ((List.getD h.l (5 : Nat) (YtaeepogbgflbpaaGreat.K.dflt (tab (59 : TypeId)))).x.ret == (0 : Int)) ((5 : Nat) < List.length h.l ∧ (5 : Nat) < List.length h.l ∧ (5 : Nat) <
  List.length h.l ∧ (5 : Nat) < List.length h.l ∧ ((List.length h.told.t5 + List.length [(List.getD h.l (5 : Nat) (YtaeepogbgflbpaaGreat.K.dflt (tab (59 : TypeId)))).x.t]) * (8 : Nat) ≤ (140737488355328
  : Nat) ∧ List.length h.told.t5 + List.length [(List.getD h.l (5 : Nat) (YtaeepogbgflbpaaGreat.K.dflt (tab (59 : TypeId)))).x.t] ≤ (140737488355328 : Nat)) ∧ (5 : Nat) < List.length h.l ∧ (isW
  (Hl.with4 h (Tk.with5 h.told (h.told.t5 ++ [(List.getD h.l (5 : Nat) (YtaeepogbgflbpaaGreat.K.dflt (tab (59 : TypeId)))).x.t]))) (5 : Int) = true ∧ small (wrAt (Hl.with4 h (Tk.with5 h.told (h.told.t5
  ++ [(List.getD h.l (5 : Nat) (YtaeepogbgflbpaaGreat.K.dflt (tab (59 : TypeId)))).x.t]))) 5).x.read ∧ List.length h.ev ≤ (110000 : Nat)) ∧ K (Hl.with4 (Hl.with2 h (h.ev ++ [evOf (Hl.with4 h (Tk.with5
  h.told (h.told.t5 ++ [(List.getD h.l (5 : Nat) (YtaeepogbgflbpaaGreat.K.dflt (tab (59 : TypeId)))).x.t]))) (5 : Int) (4 : Int) (Acc.mk 0 0 0 0 0) (0 : Int)])) (Tk.with5 h.told (h.told.t5 ++
  [(List.getD h.l (5 : Nat) (YtaeepogbgflbpaaGreat.K.dflt (tab (59 : TypeId)))).x.t]))) ()) ((isW h (5 : Int) = true ∧ small (wrAt h 5).x.read ∧ List.length h.ev ≤ (110000 : Nat)) ∧ K (Hl.with2 h (h.ev
  ++ [evOf h (5 : Int) (4 : Int) (Acc.mk 0 0 0 0 0) (0 : Int)])) ())) ((isW h (5 : Int) = true ∧ small (wrAt h 5).x.read ∧ List.length h.ev ≤ (110000 : Nat)) ∧ K (Hl.with2 h (h.ev ++ [evOf h (5 : Int)
  (4 : Int) (Acc.mk 0 0 0 0 0) (0 : Int)])) ())) := by kernel_rfl


theorem vc_over6 (K : Hl → Unit → Prop) (h : Hl) : aexecF cnd cx ΓP1 noSpec 200 Tryz.f43 (codeOf Tryz.f43) (.ptr 0 0 :: aI.enc 6) (GH.gr h) (fun y R => rdG GH Cd.unit y R K) = ( ((0 : Int) ≤ (6 : Int)
  ∧ (6 : Int) < (↑(List.length h.l) : Int)) ∧ (6 : Nat) < List.length h.l ∧ cnd (((List.getD h.l (6 : Nat) (YtaeepogbgflbpaaGreat.K.dflt (tab (59 : TypeId)))).x.op.k == (3 : Int)) == true) ((6 : Nat) <
  List.length h.l ∧ cnd ((List.getD h.l (6 : Nat) (YtaeepogbgflbpaaGreat.K.dflt (tab (59 : TypeId)))).x.ret == (0 : Int)) ((6 : Nat) < List.length h.l ∧ (6 : Nat) < List.length h.l ∧ (6 : Nat) <
  List.length h.l ∧ (6 : Nat) < List.length h.l ∧ ((List.length h.told.t6 + List.length [(List.getD h.l (6 : Nat) (YtaeepogbgflbpaaGreat.K.dflt (tab (59 : TypeId)))).x.t]) * (8 : Nat) ≤ (140737488355328
  : Nat) ∧ List.length h.told.t6 + List.length [(List.getD h.l (6 : Nat) (YtaeepogbgflbpaaGreat.K.dflt (tab (59 : TypeId)))).x.t] ≤ (140737488355328 : Nat)) ∧ (6 : Nat) < List.length h.l ∧ (isW
  (Hl.with4 h (Tk.with6 h.told (h.told.t6 ++ [(List.getD h.l (6 : Nat) (YtaeepogbgflbpaaGreat.K.dflt (tab (59 : TypeId)))).x.t]))) (6 : Int) = true ∧ small (wrAt (Hl.with4 h (Tk.with6 h.told (h.told.t6
  ++ [(List.getD h.l (6 : Nat) (YtaeepogbgflbpaaGreat.K.dflt (tab (59 : TypeId)))).x.t]))) 6).x.read ∧ List.length h.ev ≤ (110000 : Nat)) ∧ K (Hl.with4 (Hl.with2 h (h.ev ++ [evOf (Hl.with4 h (Tk.with6
  h.told (h.told.t6 ++ [(List.getD h.l (6 : Nat) (YtaeepogbgflbpaaGreat.K.dflt (tab (59 : TypeId)))).x.t]))) (6 : Int) (4 : Int) (Acc.mk 0 0 0 0 0) (0 : Int)])) (Tk.with6 h.told (h.told.t6 ++
  [(List.getD h.l (6 : Nat) (YtaeepogbgflbpaaGreat.K.dflt (tab (59 : TypeId)))).x.t]))) ()) ((isW h (6 : Int) = true ∧ small (wrAt h 6).x.read ∧ List.length h.ev ≤ (110000 : Nat)) ∧ K (Hl.with2 h (h.ev
  ++ [evOf h (6 : Int) (4 : Int) (Acc.mk 0 0 0 0 0) (0 : Int)])) ())) ((isW h (6 : Int) = true ∧ small (wrAt h 6).x.read ∧ List.length h.ev ≤ (110000 : Nat)) ∧ K (Hl.with2 h (h.ev ++ [evOf h (6 : Int)
  (4 : Int) (Acc.mk 0 0 0 0 0) (0 : Int)])) ())) := by kernel_rfl


theorem vc_over7 (K : Hl → Unit → Prop) (h : Hl) : aexecF cnd cx ΓP1 noSpec 200 Tryz.f43 (codeOf Tryz.f43) (.ptr 0 0 :: aI.enc 7) (GH.gr h) (fun y R => rdG GH Cd.unit y R K) = ( ((0 : Int) ≤ (7 : Int)
  ∧ (7 : Int) < (↑(List.length h.l) : Int)) ∧ (7 : Nat) < List.length h.l ∧ cnd (((List.getD h.l (7 : Nat) (YtaeepogbgflbpaaGreat.K.dflt (tab (59 : TypeId)))).x.op.k == (3 : Int)) == true) ((7 : Nat) <
  List.length h.l ∧ cnd ((List.getD h.l (7 : Nat) (YtaeepogbgflbpaaGreat.K.dflt (tab (59 : TypeId)))).x.ret == (0 : Int)) ((7 : Nat) < List.length h.l ∧ (7 : Nat) < List.length h.l ∧ (7 : Nat) <
  List.length h.l ∧ (7 : Nat) < List.length h.l ∧ ((List.length h.told.t7 + List.length [(List.getD h.l (7 : Nat) (YtaeepogbgflbpaaGreat.K.dflt (tab (59 : TypeId)))).x.t]) * (8 : Nat) ≤ (140737488355328
  : Nat) ∧ List.length h.told.t7 + List.length [(List.getD h.l (7 : Nat) (YtaeepogbgflbpaaGreat.K.dflt (tab (59 : TypeId)))).x.t] ≤ (140737488355328 : Nat)) ∧ (7 : Nat) < List.length h.l ∧ (isW
  (Hl.with4 h (Tk.with7 h.told (h.told.t7 ++ [(List.getD h.l (7 : Nat) (YtaeepogbgflbpaaGreat.K.dflt (tab (59 : TypeId)))).x.t]))) (7 : Int) = true ∧ small (wrAt (Hl.with4 h (Tk.with7 h.told (h.told.t7
  ++ [(List.getD h.l (7 : Nat) (YtaeepogbgflbpaaGreat.K.dflt (tab (59 : TypeId)))).x.t]))) 7).x.read ∧ List.length h.ev ≤ (110000 : Nat)) ∧ K (Hl.with4 (Hl.with2 h (h.ev ++ [evOf (Hl.with4 h (Tk.with7
  h.told (h.told.t7 ++ [(List.getD h.l (7 : Nat) (YtaeepogbgflbpaaGreat.K.dflt (tab (59 : TypeId)))).x.t]))) (7 : Int) (4 : Int) (Acc.mk 0 0 0 0 0) (0 : Int)])) (Tk.with7 h.told (h.told.t7 ++
  [(List.getD h.l (7 : Nat) (YtaeepogbgflbpaaGreat.K.dflt (tab (59 : TypeId)))).x.t]))) ()) ((isW h (7 : Int) = true ∧ small (wrAt h 7).x.read ∧ List.length h.ev ≤ (110000 : Nat)) ∧ K (Hl.with2 h (h.ev
  ++ [evOf h (7 : Int) (4 : Int) (Acc.mk 0 0 0 0 0) (0 : Int)])) ())) ((isW h (7 : Int) = true ∧ small (wrAt h 7).x.read ∧ List.length h.ev ≤ (110000 : Nat)) ∧ K (Hl.with2 h (h.ev ++ [evOf h (7 : Int)
  (4 : Int) (Acc.mk 0 0 0 0 0) (0 : Int)])) ())) := by kernel_rfl


theorem vc_hbegin (K : Hl → Unit → Prop) (h : Hl) (w : Int) : aexecF cnd cx ΓP2 noSpec 200 Tryz.f39 (codeOf Tryz.f39) (.ptr 0 0 :: aI.enc w) (GH.gr h) (fun y R => rdG GH Cd.unit y R K) = ( ((0 : Int)
  ≤ w ∧ w < (↑(List.length h.l) : Int)) ∧ Int.toNat w < List.length h.l ∧ Int.toNat w < List.length h.l ∧ cnd (decide ((wrAt h w).next ≥ (↑(List.length (wrAt h w).prog) : Int))) (K h ()) (Int.toNat w <
  List.length h.l ∧ Int.toNat w < List.length h.l ∧ ((0 : Int) ≤ (wrAt h w).next ∧ (wrAt h w).next < (↑(List.length (wrAt h w).prog) : Int)) ∧ Int.toNat w < List.length h.l ∧ Int.toNat w < List.length
  h.l ∧ ((0 : Int) ≤ (wrAt h w).next ∧ (wrAt h w).next < (↑(List.length (wrAt h w).prog) : Int)) ∧ Int.toNat w < List.length h.l ∧ Int.toNat w < List.length h.l ∧ Int.toNat w < List.length (bl0 h w) ∧
  ((List.length (bl0 h w) ≤ (8 : Nat) ∧ ∀ (w : Int), List.length (getT h.told w) ≤ (60000 : Nat)) ∧ ((nextOp h w).u = true → (0 : Int) ≤ (nextOp h w).n)) ∧ Lim (50000 : Nat) (bw0 h w).x ∧ Int.toNat w <
  List.length (bl0 h w) ∧ Int.toNat w < List.length (bl0 h w) ∧ ((List.length (bl0 h w) ≤ (8 : Nat) ∧ ∀ (w : Int), List.length (getT h.told w) ≤ (60000 : Nat)) ∧ ((nextOp h w).u = true → (0 : Int) ≤
  (nextOp h w).n)) ∧ Lim (50000 : Nat) (bw0 h w).x ∧ Int.toNat w < List.length (bl0 h w) ∧ Int.toNat w < List.length (bl1 h w) ∧ Int.toNat w < List.length (bl1 h w) ∧ (isW (Hl.with1 h (bl2 h w)) w =
  true ∧ small (wrAt (Hl.with1 h (bl2 h w)) w).x.read ∧ List.length h.ev ≤ (110000 : Nat)) ∧ Int.toNat w < List.length (bl2 h w) ∧ Int.toNat w < List.length (bl4 h w) ∧ True ∧ cnd ((List.getD (bl4 h w)
  (Int.toNat w) (YtaeepogbgflbpaaGreat.K.dflt (tab (59 : TypeId)))).x.line == (0 : Int)) ((isW (Hl.with2 (Hl.with1 h (bl4 h w)) (h.ev ++ [evOf (Hl.with1 h (bl2 h w)) w (1 : Int) (Acc.mk 0 0 0 0 0) (0 :
  Int)])) w = true ∧ small (wrAt (Hl.with2 (Hl.with1 h (bl4 h w)) (h.ev ++ [evOf (Hl.with1 h (bl2 h w)) w (1 : Int) (Acc.mk 0 0 0 0 0) (0 : Int)])) w).x.read ∧ List.length (h.ev ++ [evOf (Hl.with1 h
  (bl2 h w)) w (1 : Int) (Acc.mk 0 0 0 0 0) (0 : Int)]) ≤ (110000 : Nat)) ∧ ((List.length (bl4 h w) ≤ (8 : Nat) ∧ ∀ (w : Int), List.length (getT h.told w) ≤ (60000 : Nat)) ∧ isW (Hl.with2 (Hl.with1 h
  (bl4 h w)) (h.ev ++ [evOf (Hl.with1 h (bl2 h w)) w (1 : Int) (Acc.mk 0 0 0 0 0) (0 : Int)] ++ [evOf (Hl.with2 (Hl.with1 h (bl4 h w)) (h.ev ++ [evOf (Hl.with1 h (bl2 h w)) w (1 : Int) (Acc.mk 0 0 0 0
  0) (0 : Int)])) w (3 : Int) (Acc.mk 0 0 0 0 0) (0 : Int)])) w = true ∧ small (wrAt (Hl.with2 (Hl.with1 h (bl4 h w)) (h.ev ++ [evOf (Hl.with1 h (bl2 h w)) w (1 : Int) (Acc.mk 0 0 0 0 0) (0 : Int)] ++
  [evOf (Hl.with2 (Hl.with1 h (bl4 h w)) (h.ev ++ [evOf (Hl.with1 h (bl2 h w)) w (1 : Int) (Acc.mk 0 0 0 0 0) (0 : Int)])) w (3 : Int) (Acc.mk 0 0 0 0 0) (0 : Int)])) w).x.read ∧ List.length (h.ev ++
  [evOf (Hl.with1 h (bl2 h w)) w (1 : Int) (Acc.mk 0 0 0 0 0) (0 : Int)] ++ [evOf (Hl.with2 (Hl.with1 h (bl4 h w)) (h.ev ++ [evOf (Hl.with1 h (bl2 h w)) w (1 : Int) (Acc.mk 0 0 0 0 0) (0 : Int)])) w (3
  : Int) (Acc.mk 0 0 0 0 0) (0 : Int)]) ≤ (110000 : Nat)) ∧ K (overH (Hl.with2 (Hl.with1 h (bl4 h w)) (h.ev ++ [evOf (Hl.with1 h (bl2 h w)) w (1 : Int) (Acc.mk 0 0 0 0 0) (0 : Int)] ++ [evOf (Hl.with2
  (Hl.with1 h (bl4 h w)) (h.ev ++ [evOf (Hl.with1 h (bl2 h w)) w (1 : Int) (Acc.mk 0 0 0 0 0) (0 : Int)])) w (3 : Int) (Acc.mk 0 0 0 0 0) (0 : Int)])) w) ()) (K (Hl.with2 (Hl.with1 h (bl4 h w)) (h.ev ++
  [evOf (Hl.with1 h (bl2 h w)) w (1 : Int) (Acc.mk 0 0 0 0 0) (0 : Int)])) ()))) := by kernel_rfl


theorem vc_pick (K : Hl → Unit → Prop) (h : Hl) (w : Int) : aexecF cnd cx ΓP3 noSpec 200 Tryz.f27 (codeOf Tryz.f27) (.ptr 0 0 :: aI.enc w) (GH.gr h) (fun y R => rdG GH Cd.unit y R K) = ( cnd (decide
  (w ≥ (0 : Int)) == true) (cnd (!decide (w < (↑(List.length h.l) : Int))) (K (pk0 h) ()) (((0 : Int) ≤ w ∧ w < (↑(List.length h.l) : Int)) ∧ Int.toNat w < List.length h.l ∧ True ∧ cnd ((wrAt h
  w).x.line == (0 : Int)) ((Fine (pk0 h) ∧ isW (pk0 h) w = true) ∧ K (beginH (pk0 h) w) ()) (((0 : Int) ≤ w ∧ w < (↑(List.length h.l) : Int)) ∧ Int.toNat w < List.length h.l ∧ (((wrAt h w).x.give =
  false ∧ (wrAt h w).x.line ∈ linesF ∨ (wrAt h w).x.give = true ∧ (wrAt h w).x.line ∈ linesT) ∧ Lim (50000 : Nat) (wrAt h w).x ∧ (1 : Int) ≤ h.m.c.b ∧ h.m.c.b ≤ (16 : Int)) ∧ (((wrAt h w).x.give = false
  ∧ (wrAt h w).x.line ∈ linesF ∨ (wrAt h w).x.give = true ∧ (wrAt h w).x.line ∈ linesT) ∧ Lim (50000 : Nat) (wrAt h w).x ∧ (1 : Int) ≤ h.m.c.b ∧ h.m.c.b ≤ (16 : Int)) ∧ ((0 : Int) ≤ w ∧ w <
  (↑(List.length h.l) : Int)) ∧ Int.toNat w < List.length h.l ∧ ((0 : Int) ≤ w ∧ w < (↑(List.length h.l) : Int)) ∧ Int.toNat w < List.length h.l ∧ (isW (Hl.mk (pkS h w).fst (List.set h.l (Int.toNat w)
  (Wr.with0 (wrAt h w) (pkS h w).snd)) h.ev (wr (h.tick + (1 : Int))) h.told) w = true ∧ small (wrAt (Hl.mk (pkS h w).fst (List.set h.l (Int.toNat w) (Wr.with0 (wrAt h w) (pkS h w).snd)) h.ev (wr
  (h.tick + (1 : Int))) h.told) w).x.read ∧ List.length h.ev ≤ (110000 : Nat)) ∧ (isW (Hl.mk (pkS h w).fst (List.set h.l (Int.toNat w) (Wr.with0 (wrAt h w) (pkS h w).snd)) h.ev (wr (h.tick + (1 : Int)))
  h.told) w = true ∧ small (wrAt (Hl.mk (pkS h w).fst (List.set h.l (Int.toNat w) (Wr.with0 (wrAt h w) (pkS h w).snd)) h.ev (wr (h.tick + (1 : Int))) h.told) w).x.read ∧ List.length h.ev ≤ (110000 :
  Nat)) ∧ True ∧ cnd (pointed h w) ((isW (Hl.mk (pkS h w).fst (List.set h.l (Int.toNat w) (Wr.with0 (wrAt h w) (pkS h w).snd)) (h.ev ++ [evOf (Hl.mk (pkS h w).fst (List.set h.l (Int.toNat w) (Wr.with0
  (wrAt h w) (pkS h w).snd)) h.ev (wr (h.tick + (1 : Int))) h.told) w (2 : Int) (pkS h w).fst.seen (wrAt h w).x.line]) (wr (h.tick + (1 : Int))) h.told) w = true ∧ small (wrAt (Hl.mk (pkS h w).fst
  (List.set h.l (Int.toNat w) (Wr.with0 (wrAt h w) (pkS h w).snd)) (h.ev ++ [evOf (Hl.mk (pkS h w).fst (List.set h.l (Int.toNat w) (Wr.with0 (wrAt h w) (pkS h w).snd)) h.ev (wr (h.tick + (1 : Int)))
  h.told) w (2 : Int) (pkS h w).fst.seen (wrAt h w).x.line]) (wr (h.tick + (1 : Int))) h.told) w).x.read ∧ List.length (h.ev ++ [evOf (Hl.mk (pkS h w).fst (List.set h.l (Int.toNat w) (Wr.with0 (wrAt h
  w) (pkS h w).snd)) h.ev (wr (h.tick + (1 : Int))) h.told) w (2 : Int) (pkS h w).fst.seen (wrAt h w).x.line]) ≤ (110000 : Nat)) ∧ True ∧ cnd ((pkS h w).snd.line == (0 : Int)) (((List.length (List.set
  h.l (Int.toNat w) (Wr.with0 (wrAt h w) (pkS h w).snd)) ≤ (8 : Nat) ∧ ∀ (w : Int), List.length (getT h.told w) ≤ (60000 : Nat)) ∧ isW (Hl.mk (pkS h w).fst (List.set h.l (Int.toNat w) (Wr.with0 (wrAt h
  w) (pkS h w).snd)) (h.ev ++ [evOf (Hl.mk (pkS h w).fst (List.set h.l (Int.toNat w) (Wr.with0 (wrAt h w) (pkS h w).snd)) h.ev (wr (h.tick + (1 : Int))) h.told) w (2 : Int) (pkS h w).fst.seen (wrAt h
  w).x.line] ++ [evOf (Hl.mk (pkS h w).fst (List.set h.l (Int.toNat w) (Wr.with0 (wrAt h w) (pkS h w).snd)) (h.ev ++ [evOf (Hl.mk (pkS h w).fst (List.set h.l (Int.toNat w) (Wr.with0 (wrAt h w) (pkS h
  w).snd)) h.ev (wr (h.tick + (1 : Int))) h.told) w (2 : Int) (pkS h w).fst.seen (wrAt h w).x.line]) (wr (h.tick + (1 : Int))) h.told) w (3 : Int) (Acc.mk 0 0 0 0 0) (0 : Int)]) (wr (h.tick + (1 :
  Int))) h.told) w = true ∧ small (wrAt (Hl.mk (pkS h w).fst (List.set h.l (Int.toNat w) (Wr.with0 (wrAt h w) (pkS h w).snd)) (h.ev ++ [evOf (Hl.mk (pkS h w).fst (List.set h.l (Int.toNat w) (Wr.with0
  (wrAt h w) (pkS h w).snd)) h.ev (wr (h.tick + (1 : Int))) h.told) w (2 : Int) (pkS h w).fst.seen (wrAt h w).x.line] ++ [evOf (Hl.mk (pkS h w).fst (List.set h.l (Int.toNat w) (Wr.with0 (wrAt h w) (pkS
  h w).snd)) (h.ev ++ [evOf (Hl.mk (pkS h w).fst (List.set h.l (Int.toNat w) (Wr.with0 (wrAt h w) (pkS h w).snd)) h.ev (wr (h.tick + (1 : Int))) h.told) w (2 : Int) (pkS h w).fst.seen (wrAt h
  w).x.line]) (wr (h.tick + (1 : Int))) h.told) w (3 : Int) (Acc.mk 0 0 0 0 0) (0 : Int)]) (wr (h.tick + (1 : Int))) h.told) w).x.read ∧ List.length (h.ev ++ [evOf (Hl.mk (pkS h w).fst (List.set h.l
  (Int.toNat w) (Wr.with0 (wrAt h w) (pkS h w).snd)) h.ev (wr (h.tick + (1 : Int))) h.told) w (2 : Int) (pkS h w).fst.seen (wrAt h w).x.line] ++ [evOf (Hl.mk (pkS h w).fst (List.set h.l (Int.toNat w)
  (Wr.with0 (wrAt h w) (pkS h w).snd)) (h.ev ++ [evOf (Hl.mk (pkS h w).fst (List.set h.l (Int.toNat w) (Wr.with0 (wrAt h w) (pkS h w).snd)) h.ev (wr (h.tick + (1 : Int))) h.told) w (2 : Int) (pkS h
  w).fst.seen (wrAt h w).x.line]) (wr (h.tick + (1 : Int))) h.told) w (3 : Int) (Acc.mk 0 0 0 0 0) (0 : Int)]) ≤ (110000 : Nat)) ∧ K (overH (Hl.mk (pkS h w).fst (List.set h.l (Int.toNat w) (Wr.with0
  (wrAt h w) (pkS h w).snd)) (h.ev ++ [evOf (Hl.mk (pkS h w).fst (List.set h.l (Int.toNat w) (Wr.with0 (wrAt h w) (pkS h w).snd)) h.ev (wr (h.tick + (1 : Int))) h.told) w (2 : Int) (pkS h w).fst.seen
  (wrAt h w).x.line] ++ [evOf (Hl.mk (pkS h w).fst (List.set h.l (Int.toNat w) (Wr.with0 (wrAt h w) (pkS h w).snd)) (h.ev ++ [evOf (Hl.mk (pkS h w).fst (List.set h.l (Int.toNat w) (Wr.with0 (wrAt h w)
  (pkS h w).snd)) h.ev (wr (h.tick + (1 : Int))) h.told) w (2 : Int) (pkS h w).fst.seen (wrAt h w).x.line]) (wr (h.tick + (1 : Int))) h.told) w (3 : Int) (Acc.mk 0 0 0 0 0) (0 : Int)]) (wr (h.tick + (1
  : Int))) h.told) w) ()) (K (Hl.mk (pkS h w).fst (List.set h.l (Int.toNat w) (Wr.with0 (wrAt h w) (pkS h w).snd)) (h.ev ++ [evOf (Hl.mk (pkS h w).fst (List.set h.l (Int.toNat w) (Wr.with0 (wrAt h w)
  (pkS h w).snd)) h.ev (wr (h.tick + (1 : Int))) h.told) w (2 : Int) (pkS h w).fst.seen (wrAt h w).x.line] ++ [evOf (Hl.mk (pkS h w).fst (List.set h.l (Int.toNat w) (Wr.with0 (wrAt h w) (pkS h w).snd))
  (h.ev ++ [evOf (Hl.mk (pkS h w).fst (List.set h.l (Int.toNat w) (Wr.with0 (wrAt h w) (pkS h w).snd)) h.ev (wr (h.tick + (1 : Int))) h.told) w (2 : Int) (pkS h w).fst.seen (wrAt h w).x.line]) (wr
  (h.tick + (1 : Int))) h.told) w (3 : Int) (Acc.mk 0 0 0 0 0) (0 : Int)]) (wr (h.tick + (1 : Int))) h.told) ())) (True ∧ cnd ((pkS h w).snd.line == (0 : Int)) (((List.length (List.set h.l (Int.toNat w)
  (Wr.with0 (wrAt h w) (pkS h w).snd)) ≤ (8 : Nat) ∧ ∀ (w : Int), List.length (getT h.told w) ≤ (60000 : Nat)) ∧ isW (Hl.mk (pkS h w).fst (List.set h.l (Int.toNat w) (Wr.with0 (wrAt h w) (pkS h w).snd))
  (h.ev ++ [evOf (Hl.mk (pkS h w).fst (List.set h.l (Int.toNat w) (Wr.with0 (wrAt h w) (pkS h w).snd)) h.ev (wr (h.tick + (1 : Int))) h.told) w (2 : Int) (pkS h w).fst.seen (wrAt h w).x.line]) (wr
  (h.tick + (1 : Int))) h.told) w = true ∧ small (wrAt (Hl.mk (pkS h w).fst (List.set h.l (Int.toNat w) (Wr.with0 (wrAt h w) (pkS h w).snd)) (h.ev ++ [evOf (Hl.mk (pkS h w).fst (List.set h.l (Int.toNat
  w) (Wr.with0 (wrAt h w) (pkS h w).snd)) h.ev (wr (h.tick + (1 : Int))) h.told) w (2 : Int) (pkS h w).fst.seen (wrAt h w).x.line]) (wr (h.tick + (1 : Int))) h.told) w).x.read ∧ List.length (h.ev ++
  [evOf (Hl.mk (pkS h w).fst (List.set h.l (Int.toNat w) (Wr.with0 (wrAt h w) (pkS h w).snd)) h.ev (wr (h.tick + (1 : Int))) h.told) w (2 : Int) (pkS h w).fst.seen (wrAt h w).x.line]) ≤ (110000 : Nat))
  ∧ K (overH (Hl.mk (pkS h w).fst (List.set h.l (Int.toNat w) (Wr.with0 (wrAt h w) (pkS h w).snd)) (h.ev ++ [evOf (Hl.mk (pkS h w).fst (List.set h.l (Int.toNat w) (Wr.with0 (wrAt h w) (pkS h w).snd))
  h.ev (wr (h.tick + (1 : Int))) h.told) w (2 : Int) (pkS h w).fst.seen (wrAt h w).x.line]) (wr (h.tick + (1 : Int))) h.told) w) ()) (K (Hl.mk (pkS h w).fst (List.set h.l (Int.toNat w) (Wr.with0 (wrAt h
  w) (pkS h w).snd)) (h.ev ++ [evOf (Hl.mk (pkS h w).fst (List.set h.l (Int.toNat w) (Wr.with0 (wrAt h w) (pkS h w).snd)) h.ev (wr (h.tick + (1 : Int))) h.told) w (2 : Int) (pkS h w).fst.seen (wrAt h
  w).x.line]) (wr (h.tick + (1 : Int))) h.told) ()))))) (K (pk0 h) ())) := by kernel_rfl


end Go.Proofs.YtaeepogbgflbpaaGreat
end

/- The contracts of the hall's functions up to one pick. No condition. -/
section
set_option linter.unusedVariables false
set_option linter.unusedSimpArgs false
set_option maxRecDepth 100000
set_option maxHeartbeats 1000000
namespace Go.Proofs.YtaeepogbgflbpaaGreat
open Go Go.Ax

theorem isW_iff {h : Hl} {w : Int} : isW h w = true ↔ 0 ≤ w ∧ w < (h.l.length : Int) := by simp [isW]
theorem isW_nat {h : Hl} {w : Int} (hw : isW h w = true) : w.toNat < h.l.length := by have := isW_iff.1 hw; omega
theorem ΓP0_ok : ∀ f g, ΓP0 f = some g → GOk cx f g := addΓ_ok ΓR2_ok (inl_ok noΓ_ok Tryz.func14 (body_of (by kernel_rfl)) Tryz.call14 60)
theorem ok7 : GOk cx 7 gTold := gread_ok ΓP0_ok Tryz.func7 (body_of (by kernel_rfl)) Tryz.call7 (fun h w hp => ⟨noSpec, 200, by
  obtain ⟨h8, hs⟩ := hp
  have e := vc_told (fun h' b => (h', b) = (h, toldH h w)) h w
  have sm : ∀ j : Int, small (getT h.told j) := fun j => by have := hs j; unfold small; omega
  refine Eq.mpr e ?_
  clear e
  refine cnd_intro (fun c1 => cnd_intro (fun c2 => ?_) (fun c2 => ?_)) (fun c1 => ?_)
  · have : isW h w = false := by simp [isW]; intro; simpa using c2
    simp [toldH, this]
  · have g1 : 0 ≤ w := by simpa using c1
    have g2 : w < (h.l.length : Int) := by simpa using c2
    have hw := isW_iff.2 ⟨g1, g2⟩
    refine ⟨⟨g1, g2⟩, isW_nat hw, ?_⟩
    have fin : ∀ j : Int, w = j → ∀ l, getT h.told j = l → small l ∧ (h, id l) = (h, toldH h w) := fun j hj l hl => by
      subst hj; subst hl
      refine ⟨sm w, ?_⟩
      simp [toldH, hw]
    repeat' (refine cnd_intro (fun c => ?_) (fun c => ?_))
    all_goals simp only [decide_eq_true_eq, decide_eq_false_iff_not] at *
    · exact fin 0 (by omega) _ rfl
    · exact fin 1 (by omega) _ rfl
    · exact fin 2 (by omega) _ rfl
    · exact fin 3 (by omega) _ rfl
    · exact fin 4 (by omega) _ rfl
    · exact fin 5 (by omega) _ rfl
    · exact fin 6 (by omega) _ rfl
    · exact fin 7 (by omega) _ rfl
    · omega
  · have : isW h w = false := by
      have : ¬ 0 ≤ w := by simpa using c1
      simp [isW]; omega
    simp [toldH, this]⟩)
theorem ok41 : GOk cx 41 gNote := gcall_ok ΓP0_ok Tryz.func41 (body_of (by kernel_rfl)) Tryz.call41 (fun h ⟨w, k, a, l⟩ hp => ⟨noSpec, 200, by
  obtain ⟨hw, hs, he⟩ := hp
  simp only at hw hs he
  have e := vc_note (fun h' b => (h', b) = (noteH h w k a l, ())) h w k a l
  have g := isW_iff.1 hw
  have gn := isW_nat hw
  refine Eq.mpr e ?_
  clear e
  refine ⟨g, gn, g, gn, g, gn, cnd_intro (fun c => ⟨hs, ⟨by simp only [List.length_singleton]; omega, by simp only [List.length_singleton]; omega⟩, ?_⟩) (fun c => ⟨⟨by simp only [List.length_singleton]; omega, by simp only [List.length_singleton]; omega⟩, ?_⟩)⟩
  · have c : k = 4 := by simpa using c
    subst c; rfl
  · have c : ¬ k = 4 := by simpa using c
    simp only [noteH, evOf, if_neg c]⟩)
theorem ΓP1_ok : ∀ f g, ΓP1 f = some g → GOk cx f g := addΓ_ok (addΓ_ok ΓP0_ok ok7) ok41
theorem ok52 : GOk cx 52 gTicket := gread_ok ΓP1_ok Tryz.func52 (body_of (by kernel_rfl)) Tryz.call52 (fun h o hp => ⟨noSpec, 200, by
  obtain ⟨ht, hn⟩ := hp
  have e := vc_hticket (fun h' b => (h', b) = (h, ticketH h o)) h o
  refine Eq.mpr e ?_
  clear e
  refine cnd_intro (fun c => ?_) (fun c => ⟨ht, cnd_intro (fun d => ⟨⟨?_, ?_⟩, ?_⟩) (fun d => ?_)⟩)
  · have c : o.u = false := by simpa using c
    simp [ticketH, c]
  · exact hn (by simpa using c)
  · simpa using d
  · have c : o.u = true := by simpa using c
    have d : o.n < ((toldH h o.b).length : Int) := by simpa using d
    simp [ticketH, c, d]
  · have c : o.u = true := by simpa using c
    have d : ¬ o.n < ((toldH h o.b).length : Int) := by simpa using d
    simp only [ticketH, c, if_true, if_neg d]⟩)
theorem over_of {h : Hl} {w : Int} (hs : small (wrAt h w).x.read) (he : h.ev.length ≤ 110000) (hw : isW h w = true) (t : List Int) (ht : getT h.told w = t) (hl : t.length ≤ 60000) (h8 : w < 8) {K : Hl → Unit → Prop} (hK : K (overH h w) ())
    {T : Tk} (hT : setT8 h.told w (t ++ [(wrAt h w).x.t]) = T) :
    cnd (((wrAt h w).x.op.k == 3) == true) (w.toNat < h.l.length ∧ cnd ((wrAt h w).x.ret == 0) (w.toNat < h.l.length ∧ w.toNat < h.l.length ∧ w.toNat < h.l.length ∧ w.toNat < h.l.length ∧
      ((t.length + [(wrAt h w).x.t].length) * 8 ≤ 140737488355328 ∧ t.length + [(wrAt h w).x.t].length ≤ 140737488355328) ∧ w.toNat < h.l.length ∧
      (isW (Hl.with4 h T) w = true ∧ small (wrAt (Hl.with4 h T) w).x.read ∧ h.ev.length ≤ 110000) ∧ K (Hl.with4 (Hl.with2 h (h.ev ++ [evOf (Hl.with4 h T) w 4 ⟨0, 0, 0, 0, 0⟩ 0])) T) ())
      ((isW h w = true ∧ small (wrAt h w).x.read ∧ h.ev.length ≤ 110000) ∧ K (Hl.with2 h (h.ev ++ [evOf h w 4 ⟨0, 0, 0, 0, 0⟩ 0])) ()))
      ((isW h w = true ∧ small (wrAt h w).x.read ∧ h.ev.length ≤ 110000) ∧ K (Hl.with2 h (h.ev ++ [evOf h w 4 ⟨0, 0, 0, 0, 0⟩ 0])) ()) := by
  have gn := isW_nat hw
  subst hT; subst ht
  refine cnd_intro (fun c => ⟨gn, cnd_intro (fun d => ⟨gn, gn, gn, gn, ⟨by simp only [List.length_singleton]; omega, by simp only [List.length_singleton]; omega⟩, gn, ⟨hw, hs, he⟩, ?_⟩) (fun d => ⟨⟨hw, hs, he⟩, ?_⟩)⟩) (fun c => ⟨⟨hw, hs, he⟩, ?_⟩)
  · have c : (wrAt h w).x.op.k = 3 := by simpa using c
    have d : (wrAt h w).x.ret = 0 := by simpa using d
    have : overH h w = noteH { h with told := setT8 h.told w (getT h.told w ++ [(wrAt h w).x.t]) } w 4 acc0 0 := if_pos ⟨c, d⟩
    rw [this] at hK; exact hK
  · have d : ¬ (wrAt h w).x.ret = 0 := by simpa using d
    have : overH h w = noteH h w 4 acc0 0 := if_neg (fun q => d q.2)
    rw [this] at hK; exact hK
  · have c : ¬ (wrAt h w).x.op.k = 3 := by simpa using c
    have : overH h w = noteH h w 4 acc0 0 := if_neg (fun q => c q.1)
    rw [this] at hK; exact hK
theorem ok43 : GOk cx 43 gOver := gcall_ok ΓP1_ok Tryz.func43 (body_of (by kernel_rfl)) Tryz.call43 (fun h w hp => ⟨noSpec, 200, by
  obtain ⟨⟨h8, ht⟩, hw, hs, he⟩ := hp
  have g := isW_iff.1 hw
  have gn := isW_nat hw
  have hl := ht w
  have : w = 0 ∨ w = 1 ∨ w = 2 ∨ w = 3 ∨ w = 4 ∨ w = 5 ∨ w = 6 ∨ w = 7 := by omega
  rcases this with rfl | rfl | rfl | rfl | rfl | rfl | rfl | rfl
  · exact Eq.mpr (vc_over0 (fun h' b => (h', b) = (overH h 0, ())) h) ⟨g, gn, over_of (K := fun h' b => (h', b) = (overH h 0, ())) hs he hw h.told.t0 rfl hl (by omega) rfl (T := Tk.with0 h.told (h.told.t0 ++ [(wrAt h 0).x.t])) rfl⟩
  · exact Eq.mpr (vc_over1 (fun h' b => (h', b) = (overH h 1, ())) h) ⟨g, gn, over_of (K := fun h' b => (h', b) = (overH h 1, ())) hs he hw h.told.t1 rfl hl (by omega) rfl (T := Tk.with1 h.told (h.told.t1 ++ [(wrAt h 1).x.t])) rfl⟩
  · exact Eq.mpr (vc_over2 (fun h' b => (h', b) = (overH h 2, ())) h) ⟨g, gn, over_of (K := fun h' b => (h', b) = (overH h 2, ())) hs he hw h.told.t2 rfl hl (by omega) rfl (T := Tk.with2 h.told (h.told.t2 ++ [(wrAt h 2).x.t])) rfl⟩
  · exact Eq.mpr (vc_over3 (fun h' b => (h', b) = (overH h 3, ())) h) ⟨g, gn, over_of (K := fun h' b => (h', b) = (overH h 3, ())) hs he hw h.told.t3 rfl hl (by omega) rfl (T := Tk.with3 h.told (h.told.t3 ++ [(wrAt h 3).x.t])) rfl⟩
  · exact Eq.mpr (vc_over4 (fun h' b => (h', b) = (overH h 4, ())) h) ⟨g, gn, over_of (K := fun h' b => (h', b) = (overH h 4, ())) hs he hw h.told.t4 rfl hl (by omega) rfl (T := Tk.with4 h.told (h.told.t4 ++ [(wrAt h 4).x.t])) rfl⟩
  · exact Eq.mpr (vc_over5 (fun h' b => (h', b) = (overH h 5, ())) h) ⟨g, gn, over_of (K := fun h' b => (h', b) = (overH h 5, ())) hs he hw h.told.t5 rfl hl (by omega) rfl (T := Tk.with5 h.told (h.told.t5 ++ [(wrAt h 5).x.t])) rfl⟩
  · exact Eq.mpr (vc_over6 (fun h' b => (h', b) = (overH h 6, ())) h) ⟨g, gn, over_of (K := fun h' b => (h', b) = (overH h 6, ())) hs he hw h.told.t6 rfl hl (by omega) rfl (T := Tk.with6 h.told (h.told.t6 ++ [(wrAt h 6).x.t])) rfl⟩
  · exact Eq.mpr (vc_over7 (fun h' b => (h', b) = (overH h 7, ())) h) ⟨g, gn, over_of (K := fun h' b => (h', b) = (overH h 7, ())) hs he hw h.told.t7 rfl hl (by omega) rfl (T := Tk.with7 h.told (h.told.t7 ++ [(wrAt h 7).x.t])) rfl⟩⟩)
theorem ΓP2_ok : ∀ f g, ΓP2 f = some g → GOk cx f g := addΓ_ok (addΓ_ok (addΓ_ok (addΓ_ok (addΓ_ok (addΓ_ok ΓP1_ok ok52) ok43) ok51) ok38) ok42) ok40
end Go.Proofs.YtaeepogbgflbpaaGreat
end

/- The contracts of starting a worker's next operation, and of one pick. No condition. -/
section
set_option linter.unusedVariables false
set_option linter.unusedSimpArgs false
set_option maxRecDepth 100000
set_option maxHeartbeats 1000000
namespace Go.Proofs.YtaeepogbgflbpaaGreat
open Go Go.Ax

theorem getD_set_same {α : Type} (l : List α) (n : Nat) (x d : α) (h : n < l.length) : (l.set n x).getD n d = x := by
  rw [List.getD_eq_getElem?_getD, List.getElem?_set_self h]; rfl
theorem bw0_eq {h : Hl} {w : Int} (hw : isW h w = true) : bw0 h w = { wrAt h w with next := wr ((wrAt h w).next + 1) } := getD_set_same _ _ _ _ (isW_nat hw)
theorem bl0_len (h : Hl) (w : Int) : (bl0 h w).length = h.l.length := List.length_set
theorem bl1_len (h : Hl) (w : Int) : (bl1 h w).length = h.l.length := by unfold bl1; rw [List.length_set, bl0_len]
theorem bl2_len (h : Hl) (w : Int) : (bl2 h w).length = h.l.length := by unfold bl2; rw [List.length_set, bl1_len]
theorem bl4_len (h : Hl) (w : Int) : (bl4 h w).length = h.l.length := by unfold bl4; rw [List.length_set, bl2_len]
theorem bw1_eq {h : Hl} {w : Int} (hw : isW h w = true) : bw1 h w = { bw0 h w with x := bx1 h w } := getD_set_same _ _ _ _ (by rw [bl0_len]; exact isW_nat hw)
theorem bw2_eq {h : Hl} {w : Int} (hw : isW h w = true) : bw2 h w = { bw1 h w with x := { (bw1 h w).x with ret := 0 } } := getD_set_same _ _ _ _ (by rw [bl1_len]; exact isW_nat hw)
theorem bw4_eq {h : Hl} {w : Int} (hw : isW h w = true) : (bl4 h w).getD w.toNat (K.dflt (tab 59)) = { bw2 h w with x := { (bw2 h w).x with ret := (bw1 h w).x.ret } } := getD_set_same _ _ _ _ (by rw [bl2_len]; exact isW_nat hw)
theorem bg4_eq (h : Hl) (w : Int) : bg4 h w = { h with l := bl4 h w, ev := h.ev ++ [evOf (bg2 h w) w 1 acc0 0] } := rfl
/-- The state in which an operation starts has read nothing. -/
theorem takeBegin_read (x : Wk) : (takeBeginW x).read = x.read := by unfold takeBeginW takeW; split <;> (try split) <;> rfl
theorem body_read (x : Wk) : (bodyW x).read = x.read := by
  unfold bodyW
  repeat' split
  all_goals first | rfl | exact takeBegin_read x
theorem begX_read (c : Cfg) (x : Wk) (o : OpD) : (begX c x o).read = x.read := by
  unfold begX sharedX endX
  repeat' split
  all_goals first | rfl | exact body_read x
theorem begin_read (y : Cfg × Wk × OpD × Int) : (beginW y).read = [] := by unfold beginW; rw [begX_read]; rfl
theorem wrAt_mk {h : Hl} {w : Int} {l : List Wr} (hl : h.l = l) : wrAt h w = l.getD w.toNat (K.dflt (tab 59)) := by rw [← hl]; rfl
theorem nextOp_right {h : Hl} {w : Int} (hp : ∀ o ∈ (wrAt h w).prog, rightB o = true) : (nextOp h w).u = true → 0 ≤ (nextOp h w).n := by
  intro hu
  unfold nextOp at hu ⊢
  rw [List.getD_eq_getElem?_getD] at hu ⊢
  cases hg : (wrAt h w).prog[(wrAt h w).next.toNat]? with
  | none => rw [hg] at hu; cases hu
  | some o =>
    have := hp o (List.mem_of_getElem? hg)
    simp only [rightB, decide_eq_true_eq] at this
    simp only [Option.getD_some]
    exact this.2.2.2.1
theorem ok39 : GOk cx 39 gBeginH := gcall_ok ΓP2_ok Tryz.func39 (body_of (by kernel_rfl)) Tryz.call39 (fun h w hp => ⟨noSpec, 200, by
  obtain ⟨hf, hw⟩ := hp
  have e := vc_hbegin (fun h' b => (h', b) = (beginH h w, ())) h w
  have g := isW_iff.1 hw
  have gn := isW_nat hw
  have h8 := hf.l
  have hev := hf.ev
  have hto : ∀ w, (getT h.told w).length ≤ 60000 := fun w => Nat.le_trans (hf.told w) (by omega)
  have hno := nextOp_right (h := h) (w := w) (hf.ops w)
  have hlim : Lim 50000 (bw0 h w).x := by rw [bw0_eq hw]; exact hf.lim w
  have hread2 : (wrAt (bg2 h w) w).x.read = [] := by
    have : wrAt (bg2 h w) w = bw2 h w := rfl
    rw [this, bw2_eq hw, bw1_eq hw]; exact begin_read _
  have hread4 : ∀ H : Hl, H.l = bl4 h w → (wrAt H w).x.read = [] := fun H hH => by
    rw [wrAt_mk hH, bw4_eq hw, bw2_eq hw, bw1_eq hw]; exact begin_read _
  have hisW : ∀ H : Hl, H.l.length = h.l.length → isW H w = true := fun H hH => by rw [isW_iff, hH]; exact g
  have sm : ∀ l : List Int, l = [] → small l := fun l hl => by rw [hl]; unfold small; simp
  have l0 := bl0_len h w
  have l1 := bl1_len h w
  have l2 := bl2_len h w
  have l4 := bl4_len h w
  refine Eq.mpr e ⟨g, gn, gn, cnd_intro (fun c => ?_) (fun c => ?_)⟩
  · have c : ((wrAt h w).prog.length : Int) ≤ (wrAt h w).next := by simpa using c
    exact congrArg (fun x => (x, ())) (if_pos c).symm
  · have c : ¬ ((wrAt h w).prog.length : Int) ≤ (wrAt h w).next := by simpa using c
    have hnx : 0 ≤ (wrAt h w).next ∧ (wrAt h w).next < ((wrAt h w).prog.length : Int) := ⟨(hf.prog w).1, by omega⟩
    have fin : beginH h w = if (wrAt (bg4 h w) w).x.line = 0 then overH (bg5 h w) w else bg4 h w := if_neg c
    clear e
    rw [fin]
    refine ⟨gn, gn, hnx, gn, gn, hnx, gn, gn, by rw [l0]; exact gn, ⟨⟨by rw [l0]; exact h8, hto⟩, hno⟩, hlim, by rw [l0]; exact gn, by rw [l0]; exact gn, ⟨⟨by rw [l0]; exact h8, hto⟩, hno⟩, hlim, by rw [l0]; exact gn, by rw [l1]; exact gn, by rw [l1]; exact gn,
      ⟨hisW _ l2, sm _ hread2, Nat.le_trans hev (by omega)⟩, by rw [l2]; exact gn, by rw [l4]; exact gn, trivial, cnd_intro (fun d => ⟨⟨hisW _ l4, sm _ (hread4 _ rfl), by simp only [List.length_append, List.length_singleton]; omega⟩, ⟨⟨by rw [l4]; exact h8, hto⟩, hisW _ l4, sm _ (hread4 _ rfl), by simp only [List.length_append, List.length_singleton]; omega⟩, ?_⟩) (fun d => ?_)⟩
    · have d : (wrAt (bg4 h w) w).x.line = 0 := beq_iff_eq.1 d
      exact congrArg (fun x => (x, ())) (if_pos d).symm
    · have d : ¬ (wrAt (bg4 h w) w).x.line = 0 := beq_eq_false_iff_ne.1 d
      exact congrArg (fun x => (x, ())) (if_neg d).symm⟩)
theorem ΓP3_ok : ∀ f g, ΓP3 f = some g → GOk cx f g := addΓ_ok ΓP2_ok ok39
end Go.Proofs.YtaeepogbgflbpaaGreat
end

/- One step lengthens a state's lists by little. No condition. -/
section
set_option linter.unusedVariables false
set_option linter.unusedSimpArgs false
set_option maxRecDepth 100000
set_option maxHeartbeats 1000000
namespace Go.Proofs.YtaeepogbgflbpaaGreat
open Go Go.Ax

theorem lim_next {n : Nat} {x : Wk} (h : Lim n x) : Lim n (nextW x).1 := by
  have h3 := h.sum
  unfold nextW
  split
  · exact h
  · refine ⟨h.rack, h.read, ?_⟩; simp only [List.length_drop]; omega
theorem lim_take {n : Nat} {x : Wk} (h : Lim n x) : Lim n (takeW x).1 := by
  have h1 := h.rack
  unfold takeW
  split
  · exact h
  · refine ⟨?_, h.read, h.sum⟩; simp only [List.length_take]; omega
theorem lim_through {n : Nat} {x : Wk} (h : Lim n x) : Lim n (throughW x) := by
  unfold throughW; split <;> exact ⟨h.rack, h.read, h.sum⟩
theorem lim_giveBack {n : Nat} {x : Wk} (h : Lim n x) : Lim n (giveBackW x) := by
  unfold giveBackW
  split
  · exact lim_through ⟨h.rack, h.read, h.sum⟩
  · rename_i hh
    have hx : Lim n { x with give := true } := ⟨h.rack, h.read, h.sum⟩
    have := lim_next hx
    unfold giveBeginW
    rw [if_neg (by exact hh)]
    exact lim_same this rfl rfl rfl rfl rfl rfl
theorem lim_fail {n : Nat} {x : Wk} (h : Lim n x) (e : Int) : Lim (n + 1) (failW (x, e)) := by
  have h3 := h.sum
  unfold failW
  split
  · exact lim_giveBack (lim_same (h.mono (by omega)) rfl rfl rfl rfl rfl rfl)
  · refine lim_giveBack ⟨Nat.le_trans h.rack (by omega), Nat.le_trans h.read (by omega), ?_⟩
    simp only [List.length_append, List.length_singleton]; omega
theorem lim_takeBegin {n : Nat} {x : Wk} (h : Lim n x) : Lim n (takeBeginW x) := by
  unfold takeBeginW
  split
  · exact ⟨h.rack, h.read, h.sum⟩
  · exact lim_same (lim_take h) rfl rfl rfl rfl rfl rfl
theorem lim_body {n : Nat} {x : Wk} (h : Lim n x) : Lim n (bodyW x) := by
  unfold bodyW
  repeat' split
  all_goals first | exact ⟨h.rack, h.read, h.sum⟩ | exact lim_takeBegin h
theorem lim_flat {n m : Nat} {x y : Wk} (h : Lim n x) (hn : n ≤ m) (h1 : y.rack = x.rack) (h2 : y.read = x.read) (h3 : y.hold = x.hold) (h4 : y.l0 = x.l0) (h5 : y.l1 = x.l1) (h6 : y.l2 = x.l2) : Lim m y := (lim_same h h1 h2 h3 h4 h5 h6).mono hn
theorem lim_room {n : Nat} {x : Wk} (h : Lim n x) (m : Md) (l : Int) : Lim (n + 1) (roomL m x l) := by
  unfold roomL
  split
  · exact lim_flat (lim_now h) (by omega) rfl rfl rfl rfl rfl rfl
  · exact lim_fail (lim_now h) 6
/-- One step, by its line. -/
theorem work_cases {P : Md × Wk → Prop} {m : Md} {w : Int} {x : Wk} (h1 : x.line = 1 → P (s1 m x)) (h2 : x.line = 2 → P (s2 m w x)) (h3 : x.line = 3 → P (s3 m x)) (h90 : x.line = 90 → P (s90 m w x)) (h70 : x.line = 70 → P (s70 m x)) (h71 : x.line = 71 → P (s71 m x)) (h72 : x.line = 72 → P (s72 m x)) (h73 : x.line = 73 → P (s73 m x)) (h36 : x.line = 36 → P (s36 m x)) (h37 : x.line = 37 → P (s37 m x)) (h10 : x.line = 10 → P (s10 m x)) (h11 : x.line = 11 → P (s11 m x)) (h12 : x.line = 12 → P (s12 m x)) (h30 : x.line = 30 → P (s30 m x)) (h31 : x.line = 31 → P (s31 m x)) (h32 : x.line = 32 → P (s32 m x)) (h33 : x.line = 33 → P (s33 m x)) (h34 : x.line = 34 → P (s34 m x)) (h35 : x.line = 35 → P (s35 m x)) (h38 : x.line = 38 → P (s38 m x)) (h50 : x.line = 50 → P (s50 m x)) (h20 : x.line = 20 → P (s20 m x)) (h21 : x.line = 21 → P (s21 m x)) (h22 : x.line = 22 → P (s22 m x)) (h40 : x.line = 40 → P (s40 m x)) (h41 : x.line = 41 → P (s41 m x)) (h23 : x.line = 23 → P (s23 m x)) (h24 : x.line = 24 → P (s24 m x)) (h25 : x.line = 25 → P (s25 m x)) (h42 : x.line = 42 → P (s42 m x)) (h43 : x.line = 43 → P (s43 m x)) (h46 : x.line = 46 → P (s46 m x)) (h44 : x.line = 44 → P (s44 m x)) (h45 : x.line = 45 → P (s45 m x)) (h60 : x.line = 60 → P (s60 m x)) (h61 : x.line = 61 → P (s61 m x)) (h62 : x.line = 62 → P (s62 m x)) (h13 : x.line = 13 → P (s13 m x)) (h14 : x.line = 14 → P (s14 m x)) (h15 : x.line = 15 → P (s15 m x)) (h39 : P (s39 m x)) : P (workS m w x) := by
  unfold workS
  by_cases c1 : x.line = 1
  · rw [if_pos c1]; exact h1 c1
  rw [if_neg c1]
  by_cases c2 : x.line = 2
  · rw [if_pos c2]; exact h2 c2
  rw [if_neg c2]
  by_cases c3 : x.line = 3
  · rw [if_pos c3]; exact h3 c3
  rw [if_neg c3]
  by_cases c90 : x.line = 90
  · rw [if_pos c90]; exact h90 c90
  rw [if_neg c90]
  by_cases c70 : x.line = 70
  · rw [if_pos c70]; exact h70 c70
  rw [if_neg c70]
  by_cases c71 : x.line = 71
  · rw [if_pos c71]; exact h71 c71
  rw [if_neg c71]
  by_cases c72 : x.line = 72
  · rw [if_pos c72]; exact h72 c72
  rw [if_neg c72]
  by_cases c73 : x.line = 73
  · rw [if_pos c73]; exact h73 c73
  rw [if_neg c73]
  by_cases c36 : x.line = 36
  · rw [if_pos c36]; exact h36 c36
  rw [if_neg c36]
  by_cases c37 : x.line = 37
  · rw [if_pos c37]; exact h37 c37
  rw [if_neg c37]
  by_cases c10 : x.line = 10
  · rw [if_pos c10]; exact h10 c10
  rw [if_neg c10]
  by_cases c11 : x.line = 11
  · rw [if_pos c11]; exact h11 c11
  rw [if_neg c11]
  by_cases c12 : x.line = 12
  · rw [if_pos c12]; exact h12 c12
  rw [if_neg c12]
  by_cases c30 : x.line = 30
  · rw [if_pos c30]; exact h30 c30
  rw [if_neg c30]
  by_cases c31 : x.line = 31
  · rw [if_pos c31]; exact h31 c31
  rw [if_neg c31]
  by_cases c32 : x.line = 32
  · rw [if_pos c32]; exact h32 c32
  rw [if_neg c32]
  by_cases c33 : x.line = 33
  · rw [if_pos c33]; exact h33 c33
  rw [if_neg c33]
  by_cases c34 : x.line = 34
  · rw [if_pos c34]; exact h34 c34
  rw [if_neg c34]
  by_cases c35 : x.line = 35
  · rw [if_pos c35]; exact h35 c35
  rw [if_neg c35]
  by_cases c38 : x.line = 38
  · rw [if_pos c38]; exact h38 c38
  rw [if_neg c38]
  by_cases c50 : x.line = 50
  · rw [if_pos c50]; exact h50 c50
  rw [if_neg c50]
  by_cases c20 : x.line = 20
  · rw [if_pos c20]; exact h20 c20
  rw [if_neg c20]
  by_cases c21 : x.line = 21
  · rw [if_pos c21]; exact h21 c21
  rw [if_neg c21]
  by_cases c22 : x.line = 22
  · rw [if_pos c22]; exact h22 c22
  rw [if_neg c22]
  by_cases c40 : x.line = 40
  · rw [if_pos c40]; exact h40 c40
  rw [if_neg c40]
  by_cases c41 : x.line = 41
  · rw [if_pos c41]; exact h41 c41
  rw [if_neg c41]
  by_cases c23 : x.line = 23
  · rw [if_pos c23]; exact h23 c23
  rw [if_neg c23]
  by_cases c24 : x.line = 24
  · rw [if_pos c24]; exact h24 c24
  rw [if_neg c24]
  by_cases c25 : x.line = 25
  · rw [if_pos c25]; exact h25 c25
  rw [if_neg c25]
  by_cases c42 : x.line = 42
  · rw [if_pos c42]; exact h42 c42
  rw [if_neg c42]
  by_cases c43 : x.line = 43
  · rw [if_pos c43]; exact h43 c43
  rw [if_neg c43]
  by_cases c46 : x.line = 46
  · rw [if_pos c46]; exact h46 c46
  rw [if_neg c46]
  by_cases c44 : x.line = 44
  · rw [if_pos c44]; exact h44 c44
  rw [if_neg c44]
  by_cases c45 : x.line = 45
  · rw [if_pos c45]; exact h45 c45
  rw [if_neg c45]
  by_cases c60 : x.line = 60
  · rw [if_pos c60]; exact h60 c60
  rw [if_neg c60]
  by_cases c61 : x.line = 61
  · rw [if_pos c61]; exact h61 c61
  rw [if_neg c61]
  by_cases c62 : x.line = 62
  · rw [if_pos c62]; exact h62 c62
  rw [if_neg c62]
  by_cases c13 : x.line = 13
  · rw [if_pos c13]; exact h13 c13
  rw [if_neg c13]
  by_cases c14 : x.line = 14
  · rw [if_pos c14]; exact h14 c14
  rw [if_neg c14]
  by_cases c15 : x.line = 15
  · rw [if_pos c15]; exact h15 c15
  rw [if_neg c15]
  exact h39
theorem putX_lim {n : Nat} {x : Wk} (h : Lim n x) (m : Md) (c : Int) : Lim (n + 1) (putX m x c) := lim_bagPut h m.c _
theorem s43_lim {n : Nat} {m : Md} {x : Wk} (h : Lim n x) : Lim (n + 20) (s43 m x).2 := by
  have hY : Lim (n + 20) (putX m { x with i := killI m x, line := 0 } x.c) := Lim.mono (n := n + 1) (putX_lim (n := n) (x := { x with i := killI m x, line := 0 }) (lim_same h rfl rfl rfl rfl rfl rfl) m x.c) (by omega)
  unfold s43
  generalize putX m { x with i := killI m x, line := 0 } x.c = Y at hY ⊢
  dsimp only
  split
  · split
    · exact lim_giveBack (lim_same hY rfl rfl rfl rfl rfl rfl)
    · exact lim_same hY rfl rfl rfl rfl rfl rfl
  · exact lim_flat (n := n) h (by omega) rfl rfl rfl rfl rfl rfl
theorem s45_lim {n : Nat} {m : Md} {x : Wk} (h : Lim n x) : Lim (n + 20) (s45 m x).2 := by
  have hY : Lim (n + 20) (putX m { x with b := 0, line := 0 } x.c) := Lim.mono (n := n + 1) (putX_lim (n := n) (x := { x with b := 0, line := 0 }) (lim_same h rfl rfl rfl rfl rfl rfl) m x.c) (by omega)
  unfold s45
  generalize putX m { x with b := 0, line := 0 } x.c = Y at hY ⊢
  dsimp only
  split
  · exact lim_giveBack (lim_same hY rfl rfl rfl rfl rfl rfl)
  · exact lim_flat (n := n) h (by omega) rfl rfl rfl rfl rfl rfl
theorem s39_lim {n : Nat} {m : Md} {x : Wk} (h : Lim n x) : Lim (n + 20) (s39 m x).2 := by
  have hY : Lim (n + 20) (putW (m.c, { x with line := 0 }, wr (x.k - 1))).1 := Lim.mono (n := n + 1) (lim_putW (n := n) (x := { x with line := 0 }) (lim_same h rfl rfl rfl rfl rfl rfl) m.c _) (by omega)
  unfold s39
  generalize putW (m.c, { x with line := 0 }, wr (x.k - 1)) = Y at hY ⊢
  dsimp only
  split
  · exact lim_flat (n := n) h (by omega) rfl rfl rfl rfl rfl rfl
  · split
    · exact lim_giveBack (lim_same hY rfl rfl rfl rfl rfl rfl)
    · exact lim_flat (n := n) h (by omega) rfl rfl rfl rfl rfl rfl
theorem lim_if {n : Nat} {c : Prop} [Decidable c] {a b : Wk} (ha : Lim n a) (hb : Lim n b) : Lim n (if c then a else b) := by split <;> assumption
theorem work_lim {n : Nat} {m : Md} {w : Int} {x : Wk} (h : Lim n x) (hb : m.c.b ≤ 16) : Lim (n + 20) (workS m w x).2 := by
  have h1 := h.rack
  have h2 := h.read
  have h3 := h.sum
  have f20 : ∀ y : Wk, y.rack = x.rack → y.read = x.read → y.hold = x.hold → y.l0 = x.l0 → y.l1 = x.l1 → y.l2 = x.l2 → Lim (n + 20) y := fun y a b c d e f => (lim_same h a b c d e f).mono (by omega)
  have f19 : ∀ y : Wk, y.rack = x.rack → y.read = x.read → y.hold = x.hold → y.l0 = x.l0 → y.l1 = x.l1 → y.l2 = x.l2 → Lim (n + 19) y := fun y a b c d e f => (lim_same h a b c d e f).mono (by omega)
  have fail20 : ∀ (y : Wk) (e : Int), Lim (n + 19) y → Lim (n + 20) (failW (y, e)) := fun y e h => lim_fail h e
  have room20 : ∀ (y : Wk) (l : Int), Lim (n + 19) y → Lim (n + 20) (roomL m y l) := fun y l h => lim_room h m l
  refine work_cases (P := fun r => Lim (n + 20) r.2) (fun _ => ?_) (fun _ => ?_) (fun _ => ?_) (fun _ => ?_) (fun _ => ?_) (fun _ => ?_) (fun _ => ?_) (fun _ => ?_) (fun _ => ?_) (fun _ => ?_) (fun _ => ?_) (fun _ => ?_) (fun _ => ?_) (fun _ => ?_) (fun _ => ?_) (fun _ => ?_) (fun _ => ?_) (fun _ => ?_) (fun _ => ?_) (fun _ => ?_) (fun _ => ?_) (fun _ => ?_) (fun _ => ?_) (fun _ => ?_) (fun _ => ?_) (fun _ => ?_) (fun _ => ?_) (fun _ => ?_) (fun _ => ?_) (fun _ => ?_) (fun _ => ?_) (fun _ => ?_) (fun _ => ?_) (fun _ => ?_) (fun _ => ?_) (fun _ => ?_) (fun _ => ?_) (fun _ => ?_) (fun _ => ?_) (fun _ => ?_) ?_
  · exact (f20 _ rfl rfl rfl rfl rfl rfl)
  · exact (f20 _ rfl rfl rfl rfl rfl rfl)
  · exact (lim_if (lim_if (f20 _ rfl rfl rfl rfl rfl rfl) (lim_body (f20 _ rfl rfl rfl rfl rfl rfl))) (f20 _ rfl rfl rfl rfl rfl rfl))
  · exact (lim_if (f20 _ rfl rfl rfl rfl rfl rfl) (f20 _ rfl rfl rfl rfl rfl rfl))
  · exact (f20 _ rfl rfl rfl rfl rfl rfl)
  · exact (lim_if (f20 _ rfl rfl rfl rfl rfl rfl) (lim_if (f20 _ rfl rfl rfl rfl rfl rfl) (f20 _ rfl rfl rfl rfl rfl rfl)))
  · exact (f20 _ rfl rfl rfl rfl rfl rfl)
  · exact (lim_giveBack (lim_ripe (f20 _ rfl rfl rfl rfl rfl rfl) _))
  · exact (lim_if (f20 _ rfl rfl rfl rfl rfl rfl) (f20 _ rfl rfl rfl rfl rfl rfl))
  · exact (lim_if (f20 _ rfl rfl rfl rfl rfl rfl) (f20 _ rfl rfl rfl rfl rfl rfl))
  · exact (lim_if (f20 _ rfl rfl rfl rfl rfl rfl) (f20 _ rfl rfl rfl rfl rfl rfl))
  · exact (f20 _ rfl rfl rfl rfl rfl rfl)
  · exact (lim_if (f20 _ rfl rfl rfl rfl rfl rfl) (f20 _ rfl rfl rfl rfl rfl rfl))
  · exact (lim_if (f20 _ rfl rfl rfl rfl rfl rfl) (lim_if (lim_giveBack (f20 _ rfl rfl rfl rfl rfl rfl)) (lim_takeBegin (f20 _ rfl rfl rfl rfl rfl rfl))))
  · exact (f20 _ rfl rfl rfl rfl rfl rfl)
  · exact (lim_if (lim_giveBack (f20 _ rfl rfl rfl rfl rfl rfl)) (lim_takeBegin (f20 _ rfl rfl rfl rfl rfl rfl)))
  · exact (lim_if (f20 _ rfl rfl rfl rfl rfl rfl) (lim_if (f20 _ rfl rfl rfl rfl rfl rfl) (f20 _ rfl rfl rfl rfl rfl rfl)))
  · exact (lim_if (⟨Nat.le_trans h1 (by omega), Nat.le_trans h2 (by omega), by simp only [List.length_append, claimL_len]; omega⟩) (f20 _ rfl rfl rfl rfl rfl rfl))
  · exact (lim_if (f20 _ rfl rfl rfl rfl rfl rfl) (f20 _ rfl rfl rfl rfl rfl rfl))
  · exact (lim_if (fail20 _ _ (f19 _ rfl rfl rfl rfl rfl rfl)) (lim_takeBegin (f20 _ rfl rfl rfl rfl rfl rfl)))
  · exact (f20 _ rfl rfl rfl rfl rfl rfl)
  · exact (lim_if (fail20 _ _ (f19 _ rfl rfl rfl rfl rfl rfl)) (f20 _ rfl rfl rfl rfl rfl rfl))
  · exact (f20 _ rfl rfl rfl rfl rfl rfl)
  · exact (lim_if (f20 _ rfl rfl rfl rfl rfl rfl) (f20 _ rfl rfl rfl rfl rfl rfl))
  · exact (f20 _ rfl rfl rfl rfl rfl rfl)
  · exact (lim_giveBack (f20 _ rfl rfl rfl rfl rfl rfl))
  · exact (f20 _ rfl rfl rfl rfl rfl rfl)
  · exact (f20 _ rfl rfl rfl rfl rfl rfl)
  · exact (lim_if (lim_giveBack (f20 _ rfl rfl rfl rfl rfl rfl)) (f20 _ rfl rfl rfl rfl rfl rfl))
  · exact (lim_if (room20 _ _ (f19 _ rfl rfl rfl rfl rfl rfl)) (fail20 _ _ (f19 _ rfl rfl rfl rfl rfl rfl)))
  · exact s43_lim h
  · exact (lim_if (lim_takeBegin (f20 _ rfl rfl rfl rfl rfl rfl)) (fail20 _ _ (f19 _ rfl rfl rfl rfl rfl rfl)))
  · exact (lim_if (room20 _ _ (f19 _ rfl rfl rfl rfl rfl rfl)) (fail20 _ _ (f19 _ rfl rfl rfl rfl rfl rfl)))
  · exact s45_lim h
  · exact (lim_if (f20 _ rfl rfl rfl rfl rfl rfl) (fail20 _ _ (f19 _ rfl rfl rfl rfl rfl rfl)))
  · exact (lim_if (⟨Nat.le_trans h1 (by omega), by simp only [List.length_append, List.length_singleton]; omega, Nat.le_trans h3 (by omega)⟩) (lim_giveBack (⟨Nat.le_trans h1 (by omega), by simp only [List.length_append, List.length_singleton]; omega, Nat.le_trans h3 (by omega)⟩)))
  · exact (lim_if (⟨Nat.le_trans h1 (by omega), by simp only [List.length_append, List.length_singleton]; omega, Nat.le_trans h3 (by omega)⟩) (⟨Nat.le_trans h1 (by omega), by simp only [List.length_append, List.length_singleton]; omega, Nat.le_trans h3 (by omega)⟩))
  · exact (f20 _ rfl rfl rfl rfl rfl rfl)
  · exact (f20 _ rfl rfl rfl rfl rfl rfl)
  · exact (lim_if (lim_giveBack (f20 _ rfl rfl rfl rfl rfl rfl)) (f20 _ rfl rfl rfl rfl rfl rfl))
  · exact s39_lim h
end Go.Proofs.YtaeepogbgflbpaaGreat
end

/- The contract of one pick. No condition. -/
section
set_option linter.unusedVariables false
set_option linter.unusedSimpArgs false
set_option maxRecDepth 100000
set_option maxHeartbeats 1000000
namespace Go.Proofs.YtaeepogbgflbpaaGreat
open Go Go.Ax

theorem fine_tick {h : Hl} (hf : Fine h) : Fine (pk0 h) := ⟨hf.l, hf.ev, hf.told, hf.lim, hf.b, hf.prog, hf.ops⟩
theorem pk1_len (h : Hl) (w : Int) : (pk1 h w).l.length = h.l.length := List.length_set
theorem pk1_at {h : Hl} {w : Int} (hw : isW h w = true) : wrAt (pk1 h w) w = { wrAt h w with x := (pkS h w).2 } := getD_set_same _ _ _ _ (isW_nat hw)
theorem ok27 : GOk cx 27 gPick := gcall_ok ΓP3_ok Tryz.func27 (body_of (by kernel_rfl)) Tryz.call27 (fun h w hp => ⟨noSpec, 200, by
  obtain ⟨hf, hl⟩ := hp
  have e := vc_pick (fun h' b => (h', b) = (pickH h w, ())) h w
  refine Eq.mpr e (cnd_intro (fun c1 => cnd_intro (fun c2 => ?_) (fun c2 => ?_)) (fun c1 => ?_))
  · have : isW h w = false := by simp [isW]; intro; simpa using c2
    exact congrArg (fun x => (x, ())) (show pk0 h = pickH h w from (if_pos this).symm)
  · have g1 : 0 ≤ w := by simpa using c1
    have g2 : w < (h.l.length : Int) := by simpa using c2
    have hw := isW_iff.2 ⟨g1, g2⟩
    have gn := isW_nat hw
    have g : 0 ≤ w ∧ w < (h.l.length : Int) := ⟨g1, g2⟩
    have hnot : ¬ isW h w = false := by rw [hw]; simp
    have pick0 : pickH h w = if (wrAt h w).x.line = 0 then beginH (pk0 h) w else if pointed h w = true then (if (pkS h w).2.line = 0 then overH (pk3 h w) w else pk3 h w) else (if (pkS h w).2.line = 0 then overH (pk2 h w) w else pk2 h w) := if_neg hnot
    clear e
    refine ⟨g, gn, trivial, cnd_intro (fun d => ⟨⟨fine_tick hf, hw⟩, ?_⟩) (fun d => ?_)⟩
    · have d : (wrAt h w).x.line = 0 := beq_iff_eq.1 d
      exact congrArg (fun x => (x, ())) (by rw [pick0, if_pos d])
    · have d : ¬ (wrAt h w).x.line = 0 := beq_eq_false_iff_ne.1 d
      rw [if_neg d] at pick0
      have hok : okLine (wrAt h w).x := (hl hw).resolve_right d
      have hstep : ((((wrAt h w).x.give = false ∧ (wrAt h w).x.line ∈ linesF) ∨ ((wrAt h w).x.give = true ∧ (wrAt h w).x.line ∈ linesT)) ∧ Lim 50000 (wrAt h w).x ∧ 1 ≤ h.m.c.b ∧ h.m.c.b ≤ 16) := ⟨hok, hf.lim w, hf.b.1, hf.b.2⟩
      have hlim : Lim 50020 (pkS h w).2 := work_lim (hf.lim w) hf.b.2
      have hsm : small (pkS h w).2.read := by have := hlim.read; unfold small; omega
      have hat : ∀ H : Hl, H.l = (pk1 h w).l → small (wrAt H w).x.read := fun H hH => by
        rw [wrAt_mk hH]
        have : (pk1 h w).l.getD w.toNat (K.dflt (tab 59)) = wrAt (pk1 h w) w := rfl
        rw [this, pk1_at hw]; exact hsm
      have hev := hf.ev
      have hto : ∀ w, (getT h.told w).length ≤ 60000 := fun w => Nat.le_trans (hf.told w) (by omega)
      have hlen := pk1_len h w
      have h8 : (pk1 h w).l.length ≤ 8 := by rw [hlen]; exact hf.l
      have hisW : ∀ H : Hl, H.l = (pk1 h w).l → isW H w = true := fun H hH => by rw [isW_iff, hH, hlen]; exact g
      have e1 : ∀ a : List Ev, (h.ev ++ a).length ≤ 100000 + a.length := fun a => by rw [List.length_append]; omega
      refine ⟨g, gn, hstep, hstep, g, gn, g, gn, ⟨hisW _ rfl, hat _ rfl, Nat.le_trans hev (by omega)⟩, ⟨hisW _ rfl, hat _ rfl, Nat.le_trans hev (by omega)⟩, trivial, cnd_intro (fun p => ?_) (fun p => ?_)⟩
      · rw [if_pos p] at pick0
        refine ⟨⟨hisW _ rfl, hat _ rfl, by simp only [List.length_append, List.length_singleton]; omega⟩, trivial, cnd_intro (fun q => ⟨⟨⟨h8, hto⟩, hisW _ rfl, hat _ rfl, by simp only [List.length_append, List.length_singleton]; omega⟩, ?_⟩) (fun q => ?_)⟩
        · have q : (pkS h w).2.line = 0 := beq_iff_eq.1 q
          exact congrArg (fun x => (x, ())) (by rw [pick0, if_pos q]; rfl)
        · have q : ¬ (pkS h w).2.line = 0 := beq_eq_false_iff_ne.1 q
          exact congrArg (fun x => (x, ())) (by rw [pick0, if_neg q]; rfl)
      · have p' : ¬ pointed h w = true := by rw [p]; simp
        rw [if_neg p'] at pick0
        refine ⟨trivial, cnd_intro (fun q => ⟨⟨⟨h8, hto⟩, hisW _ rfl, hat _ rfl, by simp only [List.length_append, List.length_singleton]; omega⟩, ?_⟩) (fun q => ?_)⟩
        · have q : (pkS h w).2.line = 0 := beq_iff_eq.1 q
          exact congrArg (fun x => (x, ())) (by rw [pick0, if_pos q]; rfl)
        · have q : ¬ (pkS h w).2.line = 0 := beq_eq_false_iff_ne.1 q
          exact congrArg (fun x => (x, ())) (by rw [pick0, if_neg q]; rfl)
  · have : isW h w = false := by
      have : ¬ 0 ≤ w := by simpa using c1
      simp [isW]; omega
    exact congrArg (fun x => (x, ())) (show pk0 h = pickH h w from (if_pos this).symm)⟩)
noncomputable def ΓP4 : FuncId → Option (GSpec El) := addΓ ΓP3 27 gPick
theorem ΓP4_ok : ∀ f g, ΓP4 f = some g → GOk cx f g := addΓ_ok ΓP3_ok ok27
end Go.Proofs.YtaeepogbgflbpaaGreat
end

/- The sizes of the parts of the memory, and the first contents. No condition. -/
section
set_option linter.unusedVariables false
set_option linter.unusedSimpArgs false
set_option maxRecDepth 100000
namespace Go.Proofs.YtaeepogbgflbpaaGreat
open Go Go.Ax

theorem newV_eq {x : Cfg} (h : checkV x = 0) : newV x = x := by unfold newV; rw [if_pos h]
/-- What holds of the sizes of a valid configuration. -/
structure Sizes (x : Cfg) (T P : Int) : Prop where
  v : checkV x = 0
  w : 1 ≤ x.w ∧ x.w ≤ 8
  s : 1 ≤ x.s ∧ x.s ≤ 8
  o : 1 ≤ x.o ∧ x.o ≤ 4
  e : 1 ≤ x.e ∧ x.e ≤ 32
  b : 1 ≤ x.b ∧ x.b ≤ 16
  t : T = x.s * x.b
  tb : 1 ≤ T ∧ T ≤ 128
  p : P = T * (1 + x.o)
  pb : 1 ≤ P ∧ P ≤ 5 * T
theorem sizes_of {x : Cfg} (h : checkV x = 0) : Sizes x (x.s * x.b) (x.s * x.b * (1 + x.o)) := by
  have g := valid_of h
  have t1 : x.s * x.b ≤ 8 * 16 := Int.mul_le_mul (by omega) (by omega) (by omega) (by omega)
  have t2 : 1 * 1 ≤ x.s * x.b := Int.mul_le_mul (by omega) (by omega) (by omega) (by omega)
  have p1 : x.s * x.b * (1 + x.o) ≤ x.s * x.b * 5 := Int.mul_le_mul_of_nonneg_left (by omega) (by omega)
  have p2 : x.s * x.b * 1 ≤ x.s * x.b * (1 + x.o) := Int.mul_le_mul_of_nonneg_left (by omega) (by omega)
  exact ⟨h, by omega, by omega, by omega, by omega, by omega, rfl, by omega, rfl, by omega⟩
section
variable {x : Cfg} {T P : Int}
theorem Sizes.slabs (h : Sizes x T P) : slabsV x = 3 + x.w := by have := h.w; exact wr_in (by omega)
theorem Sizes.entries (h : Sizes x T P) : entriesV x = 3 + x.w + x.s := by
  have := h.w; have := h.s
  unfold entriesV; rw [h.slabs]; exact wr_in (by omega)
theorem Sizes.blocks (h : Sizes x T P) : blocksV x = 3 + x.w + x.s + 2 * x.e := by
  have := h.w; have := h.s; have := h.e
  unfold blocksV; rw [h.entries, wr_in (n := 2 * x.e) (by omega)]; exact wr_in (by omega)
theorem Sizes.total (h : Sizes x T P) : totalV x = T := by
  have := h.tb
  unfold totalV; rw [if_pos h.v, ← h.t]; exact wr_in (by omega)
theorem Sizes.size (h : Sizes x T P) : sizeV x = 3 + x.w + x.s + 2 * x.e + P := by
  have := h.w; have := h.s; have := h.e; have := h.tb; have := h.pb; have := h.o
  unfold sizeV; rw [if_pos h.v, h.blocks, h.total, wr_in (n := 1 + x.o) (by omega), ← h.p, wr_in (n := P) (by omega)]; exact wr_in (by omega)
theorem Sizes.at_ (h : Sizes x T P) {f i m k : Int} (hi : 0 ≤ i ∧ i < m) (h1 : -9223372036854775808 ≤ i * k ∧ i * k ≤ 9223372036854775807) (h2 : -9223372036854775808 ≤ f + i * k ∧ f + i * k ≤ 9223372036854775807) : atV x f i m k = f + i * k := by
  have := h.v
  unfold atV
  rw [if_neg (by omega), wr_in (n := i * k) h1, wr_in h2]
theorem Sizes.announce (h : Sizes x T P) {i : Int} (hi : 0 ≤ i ∧ i < x.w) : announceV x i = 3 + i := by
  have := h.w
  unfold announceV; rw [h.at_ hi (by omega) (by omega)]; omega
theorem Sizes.slab (h : Sizes x T P) {i : Int} (hi : 0 ≤ i ∧ i < x.s) : slabV x i = 3 + x.w + i := by
  have := h.w; have := h.s
  unfold slabV; rw [h.slabs, h.at_ hi (by omega) (by omega)]; omega
theorem Sizes.entry (h : Sizes x T P) {i : Int} (hi : 0 ≤ i ∧ i < x.e) : entryV x i = 3 + x.w + x.s + 2 * i := by
  have := h.w; have := h.s; have := h.e
  unfold entryV; rw [h.entries, h.at_ hi (by omega) (by omega)]; omega
theorem Sizes.entryLink (h : Sizes x T P) {i : Int} (hi : 0 ≤ i ∧ i < x.e) : entryLinkV x i = 3 + x.w + x.s + 2 * i + 1 := by
  have := h.w; have := h.s; have := h.e
  unfold entryLinkV; rw [h.entries, wr_in (by omega), h.at_ hi (by omega) (by omega)]; omega
theorem Sizes.step (h : Sizes x T P) {i : Int} (hi : 0 ≤ i ∧ i < T) : 0 ≤ i * (1 + x.o) ∧ i * (1 + x.o) + (1 + x.o) ≤ P := by
  have := h.o
  have h1 : (i + 1) * (1 + x.o) ≤ T * (1 + x.o) := Int.mul_le_mul_of_nonneg_right (by omega) (by omega)
  rw [Int.add_mul, Int.one_mul, ← h.p] at h1
  exact ⟨Int.mul_nonneg (by omega) (by omega), h1⟩
theorem Sizes.blockLink (h : Sizes x T P) {i : Int} (hi : 0 ≤ i ∧ i < T) : blockLinkV x i = 3 + x.w + x.s + 2 * x.e + i * (1 + x.o) := by
  have := h.w; have := h.s; have := h.e; have := h.tb; have := h.pb; have := h.o; have := h.step hi
  unfold blockLinkV; rw [h.blocks, h.total, wr_in (n := 1 + x.o) (by omega), h.at_ hi (by omega) (by omega)]
theorem Sizes.word (h : Sizes x T P) {i k : Int} (hi : 0 ≤ i ∧ i < T) (hk : 0 ≤ k ∧ k < x.o) : wordV x i k = 3 + x.w + x.s + 2 * x.e + i * (1 + x.o) + 1 + k := by
  have := h.w; have := h.s; have := h.e; have := h.tb; have := h.pb; have := h.o; have := h.step hi
  unfold wordV; rw [h.blockLink hi, if_pos ⟨by omega, hk.1, hk.2⟩, wr_in (n := 3 + x.w + x.s + 2 * x.e + i * (1 + x.o) + 1) (by omega), wr_in (by omega)]
end

theorem natlt {i : Nat} {n : Int} (h : decide ((i : Int) < n) = true) : (i : Int) < n := of_decide_eq_true h
theorem natge {i : Nat} {n : Int} (h : decide ((i : Int) < n) = false) : n ≤ (i : Int) := by have := of_decide_eq_false h; omega
theorem next_int {i : Nat} {n : Int} (h : (i : Int) < n) (hn : n ≤ 1000) : EqA (AVal.int IntKind.i64 (wr ((i : Int) + 1))) (AVal.int IntKind.i64 ((i + 1 : Nat) : Int)) := by
  have : wr ((i : Int) + 1) = ((i + 1 : Nat) : Int) := by rw [wr_in (by omega)]; omega
  rw [this]
/-- One round of the program's loop. -/
def stepF (x : Cfg) (l : List Int) (i : Nat) : List Int :=
  if (i : Int) + 1 < x.e then (l.set (entryV x i).toNat 1048576).set (entryLinkV x i).toNat ((i : Int) + 2) else l.set (entryV x i).toNat 1048576
def firstL (x : Cfg) : Nat → List Int
  | 0 => ((List.replicate (sizeV x).toNat (0 : Int)).set 0 2).set 2 1
  | i + 1 => stepF x (firstL x i) i
def firstV (x : Cfg) : List Int := if checkV x = 0 then firstL x x.e.toNat else []
def specFirst (x : Cfg) : Nat → Option (St El → LSpec El) := addSpec noSpec 7 fun _ =>
  { σ := Nat, slots := fun i => [(24, .int .i64 i)], res := fun i => [(2, .vec 22 (firstL x i))], inv := fun i => (i : Int) ≤ x.e, meas := fun i => x.e.toNat - i }
theorem rep_add (n m : Nat) : List.replicate (n + m) (0 : Int) = List.replicate n 0 ++ List.replicate m 0 := List.replicate_append_replicate.symm
def lk (e : Int) (j : Nat) : Int := if (j : Int) + 1 < e then (j : Int) + 2 else 0
def entW (e : Int) (n : Nat) : List Int := (List.range n).flatMap fun j => [1048576, lk e j]
theorem entW_succ (e : Int) (n : Nat) : entW e (n + 1) = entW e n ++ [1048576, lk e n] := by simp [entW, List.range_succ]
theorem length_entW (e : Int) (n : Nat) : (entW e n).length = 2 * n := by
  induction n with
  | zero => rfl
  | succ n ih => rw [entW_succ, List.length_append, ih]; simp; omega
def pre3 (x : Cfg) : List Int := [2, 0, 1] ++ List.replicate (x.w.toNat + x.s.toNat) 0
theorem length_pre3 (x : Cfg) : (pre3 x).length = 3 + (x.w.toNat + x.s.toNat) := by simp [pre3]; omega
theorem set_at {α : Type} (a : List α) (y v : α) (r : List α) (n : Nat) (h : n = a.length) : (a ++ y :: r).set n v = a ++ v :: r := by
  subst h; simp
theorem set_at1 {α : Type} (a : List α) (y z v : α) (r : List α) (n : Nat) (h : n = a.length + 1) : (a ++ y :: z :: r).set n v = a ++ y :: v :: r := by
  subst h
  rw [List.set_append_right _ _ (by omega), Nat.add_sub_cancel_left]
  rfl
theorem firstL_eq {x : Cfg} {T P : Int} (Z : Sizes x T P) : ∀ i : Nat, (i : Int) ≤ x.e → firstL x i = pre3 x ++ entW x.e i ++ List.replicate ((sizeV x).toNat - (3 + (x.w.toNat + x.s.toNat)) - 2 * i) 0 := by
  have hs := Z.size
  have b1 := Z.w
  have b2 := Z.s
  have b3 := Z.e
  have b6 := Z.pb
  have b5 := Z.tb
  intro i
  induction i with
  | zero =>
    intro _
    obtain ⟨m, hm⟩ : ∃ m, (sizeV x).toNat = (x.w.toNat + x.s.toNat + m) + 1 + 1 + 1 := ⟨(sizeV x).toNat - 3 - (x.w.toNat + x.s.toNat), by omega⟩
    have e1 : (sizeV x).toNat - (3 + (x.w.toNat + x.s.toNat)) - 2 * 0 = m := by omega
    rw [e1]
    simp only [firstL, hm, List.replicate_succ, List.set_cons_zero, List.set_cons_succ, pre3, entW, List.range_zero, List.flatMap_nil, List.append_nil, List.cons_append, List.nil_append, rep_add]
  | succ i ih =>
    intro hi
    have ih := ih (by omega)
    obtain ⟨m, hm⟩ : ∃ m, (sizeV x).toNat - (3 + (x.w.toNat + x.s.toNat)) - 2 * i = m + 1 + 1 := ⟨(sizeV x).toNat - (3 + (x.w.toNat + x.s.toNat)) - 2 * i - 2, by omega⟩
    have e1 : (sizeV x).toNat - (3 + (x.w.toNat + x.s.toNat)) - 2 * (i + 1) = m := by omega
    have he := Z.entry (i := i) ⟨by omega, by omega⟩
    have hl := Z.entryLink (i := i) ⟨by omega, by omega⟩
    have hlen : (pre3 x ++ entW x.e i).length = 3 + (x.w.toNat + x.s.toNat) + 2 * i := by rw [List.length_append, length_pre3, length_entW]
    rw [hm, List.replicate_succ, List.replicate_succ] at ih
    show stepF x (firstL x i) i = _
    rw [ih, e1, entW_succ]
    unfold stepF
    rw [set_at _ _ _ _ _ (by rw [hlen]; omega)]
    by_cases h : (i : Int) + 1 < x.e
    · rw [if_pos h, set_at1 _ _ _ _ _ _ (by rw [hlen]; omega)]
      simp only [lk, if_pos h, List.append_assoc]; rfl
    · rw [if_neg h]
      simp only [lk, if_neg h, List.append_assoc]; rfl

theorem length_firstL {x : Cfg} {T P : Int} (Z : Sizes x T P) (i : Nat) (h : (i : Int) ≤ x.e) : ((firstL x i).length : Int) = sizeV x := by
  have hs := Z.size
  have b1 := Z.w
  have b2 := Z.s
  have b3 := Z.e
  have b6 := Z.pb
  have b5 := Z.tb
  rw [firstL_eq Z _ h]
  simp only [List.length_append, length_pre3, length_entW, List.length_replicate]
  omega
end Go.Proofs.YtaeepogbgflbpaaGreat
end

/- The first contents of the memory: what the function computes, printed, and its contract. No condition. -/
section
set_option linter.unusedVariables false
set_option linter.unusedSimpArgs false
set_option maxRecDepth 100000
set_option maxHeartbeats 4000000
namespace Go.Proofs.YtaeepogbgflbpaaGreat
open Go Go.Ax

theorem vc_first (K : List Int → Prop) (x : Cfg) : aexecF cnd cx ΓK (specFirst x) 100 Tryz.f34 (codeOf Tryz.f34) (aCfg.enc x) [] (fun y R => rdV 22 R y K) = ( True ∧ cnd (checkV x != (0 : Int)) (K [])
  (True ∧ ((0 : Int) ≤ sizeV (newV x) ∧ sizeV (newV x) = sizeV (newV x) ∧ (↑(8 : Nat) : Int) * sizeV (newV x) ≤ (140737488355328 : Int) ∧ sizeV (newV x) ≤ (140737488355328 : Int)) ∧ True ∧ ((0 : Int) ≤
  (0 : Int) ∧ (0 : Int) < (↑(List.length (List.replicate (Int.toNat (sizeV (newV x))) (0 : Int))) : Int)) ∧ (0 : Nat) < List.length (List.replicate (Int.toNat (sizeV (newV x))) (0 : Int)) ∧ ((0 : Int) ≤
  (2 : Int) ∧ (2 : Int) < (↑(List.length (List.set (List.replicate (Int.toNat (sizeV (newV x))) (0 : Int)) (0 : Nat) (2 : Int))) : Int)) ∧ (2 : Nat) < List.length (List.set (List.replicate (Int.toNat
  (sizeV (newV x))) (0 : Int)) (0 : Nat) (2 : Int)) ∧ (∃ (s0 : Nat), (↑s0 : Int) ≤ x.e ∧ (EqA (AVal.int .i64 0) (AVal.int .i64 (↑s0 : Int)) ∧ True) ∧ (EqR (Res.cells 24 [AVal.int .i64 x.w, AVal.int .i64
  x.s, AVal.int .i64 x.b, AVal.int .i64 x.o, AVal.int .i64 x.e, AVal.int .i64 x.r, AVal.int .i64 x.a, AVal.int .u64 x.l]) (Res.cells 24 [AVal.int .i64 x.w, AVal.int .i64 x.s, AVal.int .i64 x.b, AVal.int
  .i64 x.o, AVal.int .i64 x.e, AVal.int .i64 x.r, AVal.int .i64 x.a, AVal.int .u64 x.l]) ∧ EqR (Res.cells 101 [AVal.int .i64 (newV x).w, AVal.int .i64 (newV x).s, AVal.int .i64 (newV x).b, AVal.int .i64
  (newV x).o, AVal.int .i64 (newV x).e, AVal.int .i64 (newV x).r, AVal.int .i64 (newV x).a, AVal.int .u64 (newV x).l]) (Res.cells 101 [AVal.int .i64 (newV x).w, AVal.int .i64 (newV x).s, AVal.int .i64
  (newV x).b, AVal.int .i64 (newV x).o, AVal.int .i64 (newV x).e, AVal.int .i64 (newV x).r, AVal.int .i64 (newV x).a, AVal.int .u64 (newV x).l]) ∧ EqR (Res.vec 22 (List.set (List.set (List.replicate
  (Int.toNat (sizeV (newV x))) (0 : Int)) (0 : Nat) (2 : Int)) (2 : Nat) (1 : Int))) (Res.vec 22 (firstL x s0)) ∧ True) ∧ True) ∧ ∀ (s : Nat), (↑s : Int) ≤ x.e → cnd (decide ((↑s : Int) < x.e)) (True ∧
  True ∧ ((0 : Int) ≤ entryV (newV x) (↑s : Int) ∧ entryV (newV x) (↑s : Int) < (↑(List.length (firstL x s)) : Int)) ∧ Int.toNat (entryV (newV x) (↑s : Int)) < List.length (firstL x s) ∧ cnd (decide (wr
  ((↑s : Int) + (1 : Int)) < x.e)) (True ∧ ((0 : Int) ≤ entryLinkV (newV x) (↑s : Int) ∧ entryLinkV (newV x) (↑s : Int) < (↑(List.length (List.set (firstL x s) (Int.toNat (entryV (newV x) (↑s : Int)))
  (1048576 : Int))) : Int)) ∧ Int.toNat (entryLinkV (newV x) (↑s : Int)) < List.length (List.set (firstL x s) (Int.toNat (entryV (newV x) (↑s : Int))) (1048576 : Int)) ∧ ∃ (s' : Nat), (↑s' : Int) ≤ x.e
  ∧ Int.toNat x.e - s' < Int.toNat x.e - s ∧ (EqA (AVal.int .i64 (wr ((↑s : Int) + (1 : Int)))) (AVal.int .i64 (↑s' : Int)) ∧ True) ∧ (EqR (Res.cells 24 [AVal.int .i64 x.w, AVal.int .i64 x.s, AVal.int
  .i64 x.b, AVal.int .i64 x.o, AVal.int .i64 x.e, AVal.int .i64 x.r, AVal.int .i64 x.a, AVal.int .u64 x.l]) (Res.cells 24 [AVal.int .i64 x.w, AVal.int .i64 x.s, AVal.int .i64 x.b, AVal.int .i64 x.o,
  AVal.int .i64 x.e, AVal.int .i64 x.r, AVal.int .i64 x.a, AVal.int .u64 x.l]) ∧ EqR (Res.cells 101 [AVal.int .i64 (newV x).w, AVal.int .i64 (newV x).s, AVal.int .i64 (newV x).b, AVal.int .i64 (newV
  x).o, AVal.int .i64 (newV x).e, AVal.int .i64 (newV x).r, AVal.int .i64 (newV x).a, AVal.int .u64 (newV x).l]) (Res.cells 101 [AVal.int .i64 (newV x).w, AVal.int .i64 (newV x).s, AVal.int .i64 (newV
  x).b, AVal.int .i64 (newV x).o, AVal.int .i64 (newV x).e, AVal.int .i64 (newV x).r, AVal.int .i64 (newV x).a, AVal.int .u64 (newV x).l]) ∧ EqR (Res.vec 22 (List.set (List.set (firstL x s) (Int.toNat
  (entryV (newV x) (↑s : Int))) (1048576 : Int)) (Int.toNat (entryLinkV (newV x) (↑s : Int))) (wu (wr ((↑s : Int) + (2 : Int)))))) (Res.vec 22 (firstL x s')) ∧ True) ∧ True) (∃ (s' : Nat), (↑s' : Int) ≤
  x.e ∧ Int.toNat x.e - s' < Int.toNat x.e - s ∧ (EqA (AVal.int .i64 (wr ((↑s : Int) + (1 : Int)))) (AVal.int .i64 (↑s' : Int)) ∧ True) ∧ (EqR (Res.cells 24 [AVal.int .i64 x.w, AVal.int .i64 x.s,
  AVal.int .i64 x.b, AVal.int .i64 x.o, AVal.int .i64 x.e, AVal.int .i64 x.r, AVal.int .i64 x.a, AVal.int .u64 x.l]) (Res.cells 24 [AVal.int .i64 x.w, AVal.int .i64 x.s, AVal.int .i64 x.b, AVal.int .i64
  x.o, AVal.int .i64 x.e, AVal.int .i64 x.r, AVal.int .i64 x.a, AVal.int .u64 x.l]) ∧ EqR (Res.cells 101 [AVal.int .i64 (newV x).w, AVal.int .i64 (newV x).s, AVal.int .i64 (newV x).b, AVal.int .i64
  (newV x).o, AVal.int .i64 (newV x).e, AVal.int .i64 (newV x).r, AVal.int .i64 (newV x).a, AVal.int .u64 (newV x).l]) (Res.cells 101 [AVal.int .i64 (newV x).w, AVal.int .i64 (newV x).s, AVal.int .i64
  (newV x).b, AVal.int .i64 (newV x).o, AVal.int .i64 (newV x).e, AVal.int .i64 (newV x).r, AVal.int .i64 (newV x).a, AVal.int .u64 (newV x).l]) ∧ EqR (Res.vec 22 (List.set (firstL x s) (Int.toNat
  (entryV (newV x) (↑s : Int))) (1048576 : Int))) (Res.vec 22 (firstL x s')) ∧ True) ∧ True)) (K (firstL x s)))) := by kernel_rfl

theorem first_told (x : Cfg) : aexecF cnd cx ΓK (specFirst x) 100 Tryz.f34 (codeOf Tryz.f34) (aCfg.enc x) [] (fun y R => rdV 22 R y (fun b => b = firstV x)) := by
  have e := vc_first (fun b => b = firstV x) x
  refine Eq.mpr e ?_; clear e
  refine ⟨trivial, cnd_intro (fun h => ?_) (fun h => ?_)⟩
  · have hv : ¬ checkV x = 0 := by simpa using h
    unfold firstV; rw [if_neg hv]
  have hv : checkV x = 0 := by simpa using h
  have Z := sizes_of hv
  have hs := Z.size
  have b1 := Z.w
  have b2 := Z.s
  have b3 := Z.e
  have b6 := Z.pb
  have b5 := Z.tb
  rw [newV_eq hv]
  refine ⟨trivial, ⟨by omega, rfl, by omega, by omega⟩, trivial, by simp only [List.length_replicate]; omega, by simp only [List.length_replicate]; omega, by simp only [List.length_set, List.length_replicate]; omega,
    by simp only [List.length_set, List.length_replicate]; omega, ⟨0, by omega, ⟨rfl, trivial⟩, ⟨rfl, rfl, rfl, trivial⟩, trivial⟩, ?_⟩
  intro s hs0
  have hl := length_firstL Z s hs0
  refine cnd_intro (fun h => ?_) (fun h => ?_)
  · have h := natlt h
    have he := Z.entry (i := s) ⟨by omega, h⟩
    have hk := Z.entryLink (i := s) ⟨by omega, h⟩
    have hw : wr ((s : Int) + 1) = (s : Int) + 1 := wr_in (by omega)
    have hw2 : wu (wr ((s : Int) + 2)) = (s : Int) + 2 := by
      rw [show wr ((s : Int) + 2) = (s : Int) + 2 from wr_in (by omega)]
      exact IntWalk.u64_in _ (by omega)
    refine ⟨trivial, trivial, ⟨by omega, by omega⟩, by omega, ?_⟩
    rw [hw2]
    refine cnd_intro (fun h' => ?_) (fun h' => ?_)
    · have h' := of_decide_eq_true h'
      rw [hw] at h'
      refine ⟨trivial, by rw [List.length_set]; omega, by rw [List.length_set]; omega, s + 1, by omega, by omega, ⟨next_int h (by omega), trivial⟩, ⟨rfl, rfl, congrArg _ ?_, trivial⟩, trivial⟩
      show _ = stepF x (firstL x s) s
      unfold stepF; rw [if_pos h']
    · have h' := of_decide_eq_false h'
      rw [hw] at h'
      refine ⟨s + 1, by omega, by omega, ⟨next_int h (by omega), trivial⟩, ⟨rfl, rfl, congrArg _ ?_, trivial⟩, trivial⟩
      show _ = stepF x (firstL x s) s
      unfold stepF; rw [if_neg h']
  · have h := natge h
    obtain rfl : s = x.e.toNat := by omega
    unfold firstV; rw [if_pos hv]
theorem ok34 : GOk cx 34 (freshV aCfg 22 (fun _ => True) firstV) := freshV_ok ΓK_ok Tryz.func34 (body_of (by kernel_rfl)) Tryz.call34 (fun x _ => ⟨specFirst x, 100, first_told x⟩)
end Go.Proofs.YtaeepogbgflbpaaGreat
end

/- Making a memory: what the functions compute, in plain Lean. No condition. -/
section
set_option linter.unusedVariables false
set_option linter.unusedSimpArgs false
set_option maxRecDepth 100000
set_option maxHeartbeats 1000000
namespace Go.Proofs.YtaeepogbgflbpaaGreat
open Go Go.Ax

abbrev aCW : Cd El (Cfg × List Int) := .pair aCfg aW
def fromB (y : Cfg × List Int) : Bool := decide (checkV y.1 = 0 ∧ (y.2.length : Int) = sizeV y.1)
def fromE (y : Cfg × List Int) : Int := if checkV y.1 = 0 then (if (y.2.length : Int) = sizeV y.1 then 0 else 3) else checkV y.1
def fromM (y : Cfg × List Int) : Md := ⟨y.1, acc0, y.2⟩
noncomputable def ΓF : FuncId → Option (GSpec El) := addΓ ΓK 15 (freshV aW 22 small id)
theorem ΓF_ok : ∀ f g, ΓF f = some g → GOk cx f g := addΓ_ok ΓK_ok ok15
noncomputable def gFrom : GSpec El := gnew GM aCW aI (fun y => small y.2) fromB fromM fromE
noncomputable def ΓF2 : FuncId → Option (GSpec El) := addΓ (addΓ noΓ 34 (freshV aCfg 22 (fun _ => True) firstV)) 33 gFrom
def newB (x : Cfg) : Bool := decide (checkV x = 0)
def newM (x : Cfg) : Md := ⟨x, acc0, firstV x⟩
noncomputable def gMem : GSpec El := gnew GM aCfg aI (fun _ => True) newB newM checkV
end Go.Proofs.YtaeepogbgflbpaaGreat
end

/- Making a memory: what the functions compute, printed, and their contracts. No condition. -/
section
set_option linter.unusedVariables false
set_option linter.unusedSimpArgs false
set_option maxRecDepth 100000
set_option maxHeartbeats 4000000
namespace Go.Proofs.YtaeepogbgflbpaaGreat
open Go Go.Ax

theorem vc_from (K : Option Md → Int → Prop) (x : Cfg) (l : List Int) : aexecF cnd cx ΓF noSpec 100 Tryz.f33 (codeOf Tryz.f33) (aCW.enc (x, l)) [] (fun y R => rdNew GM aI y R K) = ( True ∧ cnd (checkV
  x != (0 : Int)) (K none (checkV x)) (True ∧ cnd ((↑(List.length l) : Int) != sizeV (newV x)) (K none (3 : Int)) (small l ∧ small l ∧ K (some (Md.mk (newV x) (Acc.mk 0 0 0 0 0) (id l))) (0 : Int)))) :=
  by kernel_rfl

theorem vc_mnew (K : Option Md → Int → Prop) (x : Cfg) : aexecF cnd cx ΓF2 noSpec 100 Tryz.f19 (codeOf Tryz.f19) (aCfg.enc x) [] (fun y R => rdNew GM aI y R K) = ( True ∧ True ∧ small (firstV x) ∧ cnd
  (fromB (x, firstV x)) (K (some (Md.mk x (Acc.mk 0 0 0 0 0) (firstV x))) (fromE (x, firstV x))) (K none (fromE (x, firstV x)))) := by kernel_rfl

theorem ok33 : GOk cx 33 gFrom := gnew_ok ΓF_ok Tryz.func33 (body_of (by kernel_rfl)) Tryz.call33 (fun ⟨x, l⟩ hp => ⟨noSpec, 100, by
  have e := vc_from (fun o b => b = fromE (x, l) ∧ match o with | some s => fromB (x, l) = true ∧ s = fromM (x, l) | none => fromB (x, l) = false) x l
  refine Eq.mpr e ⟨trivial, cnd_intro (fun c1 => ?_) (fun c1 => ⟨trivial, cnd_intro (fun c2 => ?_) (fun c2 => ⟨hp, hp, ?_⟩)⟩)⟩
  · have c1 : ¬ checkV x = 0 := by simpa using c1
    exact ⟨by simp [fromE, c1], by simp [fromB, c1]⟩
  · have c1 : checkV x = 0 := by simpa using c1
    rw [newV_eq c1] at c2
    have c2 : ¬ (l.length : Int) = sizeV x := by simpa using c2
    exact ⟨by simp [fromE, c1, c2], by simp [fromB, c1, c2]⟩
  · have c1 : checkV x = 0 := by simpa using c1
    rw [newV_eq c1] at c2
    have c2 : (l.length : Int) = sizeV x := by simpa using c2
    rw [newV_eq c1]
    exact ⟨by simp [fromE, c1, c2], by simp [fromB, c1, c2], rfl⟩⟩)
theorem ΓF2_ok : ∀ f g, ΓF2 f = some g → GOk cx f g := addΓ_ok (addΓ_ok noΓ_ok ok34) ok33
theorem length_firstV {x : Cfg} (h : checkV x = 0) : ((firstV x).length : Int) = sizeV x := by
  have Z := sizes_of h
  have := Z.size
  have := Z.w
  have := Z.s
  have := Z.e
  have := Z.pb
  have := Z.tb
  have hl := length_firstL Z x.e.toNat (by omega)
  unfold firstV; rw [if_pos h]; omega
theorem small_firstV (x : Cfg) : small (firstV x) := by
  by_cases h : checkV x = 0
  · have Z := sizes_of h
    have := Z.size
    have := Z.w
    have := Z.s
    have := Z.e
    have := Z.pb
    have := Z.tb
    have := length_firstV h
    unfold small; omega
  · unfold firstV; rw [if_neg h]; exact Nat.zero_le _
theorem ok19 : GOk cx 19 gMem := gnew_ok ΓF2_ok Tryz.func19 (body_of (by kernel_rfl)) Tryz.call19 (fun x hp => ⟨noSpec, 100, by
  have e := vc_mnew (fun o b => b = checkV x ∧ match o with | some s => newB x = true ∧ s = newM x | none => newB x = false) x
  refine Eq.mpr e ⟨trivial, trivial, small_firstV x, cnd_intro (fun c1 => ?_) (fun c1 => ?_)⟩
  · have c1 : checkV x = 0 ∧ ((firstV x).length : Int) = sizeV x := of_decide_eq_true c1
    exact ⟨by simp [fromE, c1], by simp [newB, c1], rfl⟩
  · have c1 : ¬ (checkV x = 0 ∧ ((firstV x).length : Int) = sizeV x) := of_decide_eq_false c1
    have h : ¬ checkV x = 0 := fun h => c1 ⟨h, length_firstV h⟩
    exact ⟨by simp [fromE, h], by simp [newB, h]⟩⟩)
end Go.Proofs.YtaeepogbgflbpaaGreat
end

/- Lists of operations: what the functions on them compute, in plain Lean. No condition. -/
section
set_option linter.unusedVariables false
set_option linter.unusedSimpArgs false
set_option maxRecDepth 100000
set_option maxHeartbeats 1000000
namespace Go.Proofs.YtaeepogbgflbpaaGreat
open Go Go.Ax

/-- A function's value. -/
def cdFn (f : FuncId) : Cd El Unit where
  enc _ := [.fn f []]
  dec _ l := match l with
    | .fn g [] :: r => if g = f then some ((), r) else none
    | _ => none
  strict l x r h := by
    split at h
    · split at h
      · rename_i e; subst e; cases h; rfl
      · cases h
    · cases h
  reads b l x r h L I w E vs hr := by
    split at h
    · split at h
      · rename_i e; subst e; cases h; exact hr
      · cases h
    · cases h
abbrev aEvs : Cd El (List Ev) := .list 45
abbrev aLoad : Cd El (List (List OpD)) := .list 48
abbrev aOF : Cd El (List OpD × Unit) := .pair aOps (cdFn 21)
def wrongB (o : OpD) : Bool := !rightB o
/-- The place of the first wrong operation. -/
def idxF : List OpD → Nat → Int
  | [], _ => -1
  | o :: l, i => if wrongB o = true then i else idxF l (i + 1)
def anyW (l : List OpD) : Bool := l.any wrongB
noncomputable def ΓI1 : FuncId → Option (GSpec El) := addΓ noΓ 22 (said aOp fun o => .bool (rightB o))
noncomputable def ΓI2 : FuncId → Option (GSpec El) := addΓ noΓ 21 (inl cx ΓI1 100 Tryz.f21 (codeOf Tryz.f21))
noncomputable def gIdx : GSpec El := plain aOF aI (fun y => y.1.length ≤ 1000) (fun y => idxF y.1 0)
noncomputable def ΓI3 : FuncId → Option (GSpec El) := addΓ noΓ 37 gIdx
noncomputable def gAny : GSpec El := plain aOF cdB (fun y => y.1.length ≤ 1000) (fun y => anyW y.1)
noncomputable def specIdx (l : List OpD) : Nat → Option (St El → LSpec El) := addSpec noSpec 2 fun _ =>
  { σ := Nat, slots := fun i => [(8, .int .i64 i)], res := fun _ => [], inv := fun i => i ≤ l.length ∧ idxF (l.drop i) i = idxF l 0, meas := fun i => l.length - i }
end Go.Proofs.YtaeepogbgflbpaaGreat
end

/- Lists of operations: what the functions compute, printed, and their contracts. No condition. -/
section
set_option linter.unusedVariables false
set_option linter.unusedSimpArgs false
set_option maxRecDepth 100000
set_option maxHeartbeats 4000000
namespace Go.Proofs.YtaeepogbgflbpaaGreat
open Go Go.Ax

theorem vc_clop (K : List OpD → Prop) (a : List OpD) : aexecF cnd cx noΓ noSpec 100 Tryz.f20 (codeOf Tryz.f20) (aOps.enc a) [] (fun y R => rdV 38 R y K) = ( cnd (List.isEmpty a) (K [] ∧ (((0 : Nat) +
  List.length a) * (56 : Nat) ≤ (140737488355328 : Nat) ∧ (0 : Nat) + List.length a ≤ (140737488355328 : Nat)) ∧ K ([] ++ a)) ((((0 : Nat) + List.length a) * (56 : Nat) ≤ (140737488355328 : Nat) ∧ (0 :
  Nat) + List.length a ≤ (140737488355328 : Nat)) ∧ K ([] ++ a))) := by kernel_rfl

theorem vc_idx (K : Int → Prop) (l : List OpD) : aexecF cnd cx ΓI2 (specIdx l) 100 Tryz.f37 (codeOf Tryz.f37) (aOF.enc (l, ())) [] (fun y R => rd aI (settleA R y) K) = ( (∃ (s0 : Nat), (s0 ≤
  List.length l ∧ idxF (List.drop s0 l) s0 = idxF l (0 : Nat)) ∧ (EqA (AVal.int .i64 0) (AVal.int .i64 (↑s0 : Int)) ∧ True) ∧ True ∧ True) ∧ ∀ (s : Nat), s ≤ List.length l ∧ idxF (List.drop s l) s =
  idxF l (0 : Nat) → cnd (decide ((↑s : Int) < (↑(List.length l) : Int))) (((0 : Int) ≤ (↑s : Int) ∧ (↑s : Int) < (↑(List.length l) : Int)) ∧ True ∧ cnd (!rightB (List.getD l (Int.toNat (↑s : Int))
  (YtaeepogbgflbpaaGreat.K.dflt (tab (38 : TypeId))))) (K (↑s : Int)) (∃ (s' : Nat), (s' ≤ List.length l ∧ idxF (List.drop s' l) s' = idxF l (0 : Nat)) ∧ List.length l - s' < List.length l - s ∧ (EqA
  (AVal.int .i64 (wr ((↑s : Int) + (1 : Int)))) (AVal.int .i64 (↑s' : Int)) ∧ True) ∧ True ∧ True)) (K (-1 : Int))) := by kernel_rfl

theorem vc_any (K : Bool → Prop) (l : List OpD) : aexecF cnd cx ΓI3 noSpec 100 Tryz.f25 (codeOf Tryz.f25) (aOF.enc (l, ())) [] (fun y R => rd cdB (settleA R y) K) = ( List.length l ≤ (1000 : Nat) ∧ K
  (decide (idxF l (0 : Nat) ≥ (0 : Int)))) := by kernel_rfl

theorem ok20 : GOk cx 20 (freshV aOps 38 (fun l => l.length ≤ 100000) id) := freshV_ok noΓ_ok Tryz.func20 (body_of (by kernel_rfl)) Tryz.call20 (fun a h => ⟨noSpec, 100, by
  have e := vc_clop (fun q => q = a) a
  refine Eq.mpr e ?_; clear e
  have h : a.length ≤ 100000 := h
  refine cnd_intro (fun he => ?_) (fun he => ?_)
  · have : a = [] := by simpa using he
    subst this
    exact ⟨rfl, by simp, rfl⟩
  · exact ⟨by omega, rfl⟩⟩)
theorem ΓI1_ok : ∀ f g, ΓI1 f = some g → GOk cx f g := addΓ_ok noΓ_ok ok22
theorem ΓI2_ok : ∀ f g, ΓI2 f = some g → GOk cx f g := addΓ_ok noΓ_ok (inl_ok ΓI1_ok Tryz.func21 (body_of (by kernel_rfl)) Tryz.call21 100)
theorem ok37 : GOk cx 37 gIdx := plain_ok ΓI2_ok Tryz.func37 (body_of (by kernel_rfl)) Tryz.call37 (fun ⟨l, _⟩ h => ⟨specIdx l, 100, by
  have h : l.length ≤ 1000 := h
  have e := vc_idx (fun q => q = idxF l 0) l
  refine Eq.mpr e ⟨⟨0, ⟨Nat.zero_le _, rfl⟩, ⟨rfl, trivial⟩, trivial, trivial⟩, ?_⟩
  intro s ⟨hs, hi⟩
  refine cnd_intro (fun c => ?_) (fun c => ?_)
  · have c : s < l.length := by have := of_decide_eq_true c; omega
    rw [List.drop_eq_getElem_cons c] at hi
    have e1 : l.getD (Int.toNat (s : Int)) (K.dflt (tab 38)) = l[s] := by rw [Int.toNat_natCast, List.getD_eq_getElem?_getD, List.getElem?_eq_getElem c]; rfl
    refine ⟨⟨by omega, by omega⟩, trivial, ?_⟩
    rw [e1]
    refine cnd_intro (fun d => ?_) (fun d => ?_)
    · rw [← hi]; unfold idxF wrongB; rw [if_pos d]
    · refine ⟨s + 1, ⟨by omega, ?_⟩, by omega, ⟨next_int (by omega) (Int.ofNat_le.2 h), trivial⟩, trivial, trivial⟩
      rw [← hi]
      show _ = if wrongB l[s] = true then (s : Int) else idxF (l.drop (s + 1)) (s + 1)
      unfold wrongB; rw [d, if_neg (by simp)]
  · have c : ¬ s < l.length := by have := of_decide_eq_false c; omega
    rw [List.drop_eq_nil_of_le (by omega)] at hi
    exact hi⟩)
theorem idx_any (l : List OpD) : ∀ i : Nat, decide (idxF l i ≥ 0) = anyW l := by
  induction l with
  | nil => intro i; rfl
  | cons o l ih =>
    intro i
    unfold idxF anyW
    by_cases h : wrongB o = true
    · rw [if_pos h]; simp [h]
    · rw [if_neg h, ih (i + 1)]; simp [h, anyW]
theorem ΓI3_ok : ∀ f g, ΓI3 f = some g → GOk cx f g := addΓ_ok noΓ_ok ok37
theorem ok25 : GOk cx 25 gAny := plain_ok ΓI3_ok Tryz.func25 (body_of (by kernel_rfl)) Tryz.call25 (fun ⟨l, _⟩ h => ⟨noSpec, 100, by
  have e := vc_any (fun q => q = anyW l) l
  exact Eq.mpr e ⟨h, idx_any l 0⟩⟩)
end Go.Proofs.YtaeepogbgflbpaaGreat
end

/- Making a hall: what the function computes, in plain Lean. No condition. -/
section
set_option linter.unusedVariables false
set_option linter.unusedSimpArgs false
set_option maxRecDepth 100000
set_option maxHeartbeats 1000000
namespace Go.Proofs.YtaeepogbgflbpaaGreat
open Go Go.Ax

noncomputable def ΓJ1 : FuncId → Option (GSpec El) := addΓ noΓ 25 gAny
theorem ΓJ1_ok : ∀ f g, ΓJ1 f = some g → GOk cx f g := addΓ_ok noΓ_ok ok25
noncomputable def ΓJ2 : FuncId → Option (GSpec El) := addΓ noΓ 24 (inl cx ΓJ1 100 Tryz.f24 (codeOf Tryz.f24))
theorem ΓJ2_ok : ∀ f g, ΓJ2 f = some g → GOk cx f g := addΓ_ok noΓ_ok (inl_ok ΓJ1_ok Tryz.func24 (body_of (by kernel_rfl)) Tryz.call24 100)
noncomputable def ΓJ3 : FuncId → Option (GSpec El) := addΓ noΓ 36 (inl cx ΓJ2 21 Tryz.f36 (codeOf Tryz.f36))
theorem ΓJ3_ok : ∀ f g, ΓJ3 f = some g → GOk cx f g := addΓ_ok noΓ_ok (inl_ok ΓJ2_ok Tryz.func36 (body_of (by kernel_rfl)) Tryz.call36 21)
noncomputable def ΓJ4 : FuncId → Option (GSpec El) := addΓ noΓ 23 (inl cx ΓJ3 100 Tryz.f23 (codeOf Tryz.f23))
theorem ΓJ4_ok : ∀ f g, ΓJ4 f = some g → GOk cx f g := addΓ_ok noΓ_ok (inl_ok ΓJ3_ok Tryz.func23 (body_of (by kernel_rfl)) Tryz.call23 100)
noncomputable def ΓJ : FuncId → Option (GSpec El) := addΓ (addΓ ΓJ4 20 (freshV aOps 38 (fun l => l.length ≤ 100000) id)) 19 gMem
theorem ΓJ_ok : ∀ f g, ΓJ f = some g → GOk cx f g := addΓ_ok (addΓ_ok ΓJ4_ok ok20) ok19
abbrev aCL : Cd El (Cfg × List (List OpD)) := .pair aCfg aLoad
def newL (w : Int) (load : List (List OpD)) : Nat → List Wr
  | 0 => List.replicate w.toNat wr0
  | i + 1 => (newL w load i).set i { (newL w load i).getD i (K.dflt (tab 59)) with prog := load.getD i [] }
def newE (y : Cfg × List (List OpD)) : Int := if checkV y.1 = 0 then (if y.1.w < (y.2.length : Int) then 1 else if y.2.any (fun l => decide (200 < l.length)) = true then 5 else if y.2.any anyW = true then 3 else 0) else checkV y.1
def newH (y : Cfg × List (List OpD)) : Hl := ⟨newM y.1, newL y.1.w y.2 y.2.length, [], 0, ⟨[], [], [], [], [], [], [], []⟩⟩
def ptrOf (st : St El) (d : Nat) : Nat := match nth st.slots d with
  | .ptr r _ => r
  | _ => 0
def recOf (st : St El) (d : Nat) : Nat := match getR st.res (ptrOf st d) with
  | .cells _ (_ :: .vec r :: _) => r
  | _ => 0
def nmsOf (st : St El) (r : Nat) : List (AVal El) := match getR st.res r with
  | .recs _ _ _ nm => nm
  | _ => []
def evFix (st : St El) (d : Nat) : Res El := match getR st.res (ptrOf st d) with
  | .cells t (a :: b :: _ :: r) => .cells t (a :: b :: .vec (lenR st.res) :: r)
  | _ => .dead
noncomputable def specNew (w : Int) (load : List (List OpD)) : Nat → Option (St El → LSpec El) := addSpec noSpec 8 fun st =>
  { σ := Nat, slots := fun i => [(35, .int .i64 i)], res := fun i => [(recOf st 8, .recs 59 (newL w load i) 35 (nmsOf st (recOf st 8))), (ptrOf st 8, evFix st 8), (lenR st.res, .vec 45 [])],
    inv := fun i => i ≤ load.length ∧ (load.take i).any (fun l => decide (200 < l.length)) = false, meas := fun i => load.length - i, fresh := [.cell (ptrOf st 8) 2] }
def hallB (y : Cfg × List (List OpD)) : Bool := decide (newE y = 0)
def goodLoad (l : List (List OpD)) : Prop := l.length ≤ 1000 ∧ ∀ p ∈ l, p.length ≤ 1000
noncomputable def gHall : GSpec El := gnew GH aCL aI (fun y => goodLoad y.2) hallB newH newE
end Go.Proofs.YtaeepogbgflbpaaGreat
end

/- Making a hall: what the function computes, printed, and its contract. No condition. -/
section
set_option linter.unusedVariables false
set_option linter.unusedSimpArgs false
set_option maxRecDepth 100000
set_option maxHeartbeats 4000000
namespace Go.Proofs.YtaeepogbgflbpaaGreat
open Go Go.Ax

theorem vc_hnew (K : Option Hl → Int → Prop) (x : Cfg) (load : List (List OpD)) : aexecF cnd cx ΓJ (specNew x.w load) 100 Tryz.f10 (codeOf Tryz.f10) (aCL.enc (x, load)) [] (fun y R => rdNew GH aI y R
  K) = ( True ∧ cnd (newB x) (cnd (checkV x != (0 : Int)) (K none (checkV x)) (cnd (decide ((↑(List.length load) : Int) > x.w)) (K none (1 : Int)) (((0 : Int) ≤ x.w ∧ x.w = x.w ∧ (↑(416 : Nat) : Int) *
  x.w ≤ (140737488355328 : Int) ∧ x.w ≤ (140737488355328 : Int)) ∧ (∃ (s0 : Nat), (s0 ≤ List.length load ∧ (List.any (List.take s0 load) fun (l : List OpD) => decide ((200 : Nat) < List.length l)) =
  false) ∧ (EqA (AVal.int .i64 0) (AVal.int .i64 (↑s0 : Int)) ∧ True) ∧ (EqR (Res.cells 24 [AVal.int .i64 x.w, AVal.int .i64 x.s, AVal.int .i64 x.b, AVal.int .i64 x.o, AVal.int .i64 x.e, AVal.int .i64
  x.r, AVal.int .i64 x.a, AVal.int .u64 x.l]) (Res.cells 24 [AVal.int .i64 x.w, AVal.int .i64 x.s, AVal.int .i64 x.b, AVal.int .i64 x.o, AVal.int .i64 x.e, AVal.int .i64 x.r, AVal.int .i64 x.a, AVal.int
  .u64 x.l]) ∧ EqR (Res.cells 103 [AVal.int .i64 x.w, AVal.int .i64 x.s, AVal.int .i64 x.b, AVal.int .i64 x.o, AVal.int .i64 x.e, AVal.int .i64 x.r, AVal.int .i64 x.a, AVal.int .u64 x.l, AVal.int .i64
  0, AVal.int .i64 0, AVal.int .u64 0, AVal.int .u64 0, AVal.int .u64 0, AVal.vec 2]) (Res.cells 103 [AVal.int .i64 x.w, AVal.int .i64 x.s, AVal.int .i64 x.b, AVal.int .i64 x.o, AVal.int .i64 x.e,
  AVal.int .i64 x.r, AVal.int .i64 x.a, AVal.int .u64 x.l, AVal.int .i64 0, AVal.int .i64 0, AVal.int .u64 0, AVal.int .u64 0, AVal.int .u64 0, AVal.vec 2]) ∧ EqR (Res.vec 22 (firstV x)) (Res.vec 22
  (firstV x)) ∧ (EqR (Res.recs 59 (List.replicate (Int.toNat x.w) (YtaeepogbgflbpaaGreat.K.dflt (tab (59 : Nat)))) 35 []) (Res.recs 59 (newL x.w load s0) 35 []) ∧ ([AVal.vec 4, AVal.vec 5, AVal.vec 6,
  AVal.vec 7, AVal.vec 8, AVal.vec 9, AVal.vec 10, AVal.vec 11] : List (AVal El)) = [AVal.vec 4, AVal.vec 5, AVal.vec 6, AVal.vec 7, AVal.vec 8, AVal.vec 9, AVal.vec 10, AVal.vec 11]) ∧ EqR (Res.vec 22
  []) (Res.vec 22 []) ∧ EqR (Res.vec 22 []) (Res.vec 22 []) ∧ EqR (Res.vec 22 []) (Res.vec 22 []) ∧ EqR (Res.vec 22 []) (Res.vec 22 []) ∧ EqR (Res.vec 22 []) (Res.vec 22 []) ∧ EqR (Res.vec 22 [])
  (Res.vec 22 []) ∧ EqR (Res.vec 22 []) (Res.vec 22 []) ∧ EqR (Res.vec 22 []) (Res.vec 22 []) ∧ (True ∧ True ∧ True ∧ True ∧ EqA (AVal.int .i64 0) (AVal.int .i64 0) ∧ True) ∧ ([] : List Ev) = [] ∧ True)
  ∧ True) ∧ ∀ (s : Nat), s ≤ List.length load ∧ (List.any (List.take s load) fun (l : List OpD) => decide ((200 : Nat) < List.length l)) = false → cnd (decide ((↑s : Int) < (↑(List.length load) : Int)))
  (((0 : Int) ≤ (↑s : Int) ∧ (↑s : Int) < (↑(List.length load) : Int)) ∧ cnd (decide ((↑(List.length (List.getD load (Int.toNat (↑s : Int)) (YtaeepogbgflbpaaGreat.K.dflt (tab (48 : TypeId))))) : Int) >
  (200 : Int))) (K none (5 : Int)) (List.length (List.getD load (Int.toNat (↑s : Int)) (YtaeepogbgflbpaaGreat.K.dflt (tab (48 : TypeId)))) ≤ (100000 : Nat) ∧ List.length (List.getD load (Int.toNat (↑s :
  Int)) (YtaeepogbgflbpaaGreat.K.dflt (tab (48 : TypeId)))) ≤ (100000 : Nat) ∧ ((0 : Int) ≤ (↑s : Int) ∧ (↑s : Int) < (↑(List.length (newL x.w load s)) : Int)) ∧ Int.toNat (↑s : Int) < List.length (newL
  x.w load s) ∧ ∃ (s' : Nat), (s' ≤ List.length load ∧ (List.any (List.take s' load) fun (l : List OpD) => decide ((200 : Nat) < List.length l)) = false) ∧ List.length load - s' < List.length load - s ∧
  (EqA (AVal.int .i64 (wr ((↑s : Int) + (1 : Int)))) (AVal.int .i64 (↑s' : Int)) ∧ True) ∧ (EqR (Res.cells 24 [AVal.int .i64 x.w, AVal.int .i64 x.s, AVal.int .i64 x.b, AVal.int .i64 x.o, AVal.int .i64
  x.e, AVal.int .i64 x.r, AVal.int .i64 x.a, AVal.int .u64 x.l]) (Res.cells 24 [AVal.int .i64 x.w, AVal.int .i64 x.s, AVal.int .i64 x.b, AVal.int .i64 x.o, AVal.int .i64 x.e, AVal.int .i64 x.r, AVal.int
  .i64 x.a, AVal.int .u64 x.l]) ∧ EqR (Res.cells 103 [AVal.int .i64 x.w, AVal.int .i64 x.s, AVal.int .i64 x.b, AVal.int .i64 x.o, AVal.int .i64 x.e, AVal.int .i64 x.r, AVal.int .i64 x.a, AVal.int .u64
  x.l, AVal.int .i64 0, AVal.int .i64 0, AVal.int .u64 0, AVal.int .u64 0, AVal.int .u64 0, AVal.vec 2]) (Res.cells 103 [AVal.int .i64 x.w, AVal.int .i64 x.s, AVal.int .i64 x.b, AVal.int .i64 x.o,
  AVal.int .i64 x.e, AVal.int .i64 x.r, AVal.int .i64 x.a, AVal.int .u64 x.l, AVal.int .i64 0, AVal.int .i64 0, AVal.int .u64 0, AVal.int .u64 0, AVal.int .u64 0, AVal.vec 2]) ∧ EqR (Res.vec 22 (firstV
  x)) (Res.vec 22 (firstV x)) ∧ (EqR (Res.recs 59 (List.set (newL x.w load s) (Int.toNat (↑s : Int)) (Wr.with1 (List.getD (newL x.w load s) (Int.toNat (↑s : Int)) (YtaeepogbgflbpaaGreat.K.dflt (tab (59
  : TypeId)))) (id (List.getD load (Int.toNat (↑s : Int)) (YtaeepogbgflbpaaGreat.K.dflt (tab (48 : TypeId))))))) 35 []) (Res.recs 59 (newL x.w load s') 35 []) ∧ ([AVal.vec 4, AVal.vec 5, AVal.vec 6,
  AVal.vec 7, AVal.vec 8, AVal.vec 9, AVal.vec 10, AVal.vec 11] : List (AVal El)) = [AVal.vec 4, AVal.vec 5, AVal.vec 6, AVal.vec 7, AVal.vec 8, AVal.vec 9, AVal.vec 10, AVal.vec 11]) ∧ EqR (Res.vec 22
  []) (Res.vec 22 []) ∧ EqR (Res.vec 22 []) (Res.vec 22 []) ∧ EqR (Res.vec 22 []) (Res.vec 22 []) ∧ EqR (Res.vec 22 []) (Res.vec 22 []) ∧ EqR (Res.vec 22 []) (Res.vec 22 []) ∧ EqR (Res.vec 22 [])
  (Res.vec 22 []) ∧ EqR (Res.vec 22 []) (Res.vec 22 []) ∧ EqR (Res.vec 22 []) (Res.vec 22 []) ∧ (True ∧ True ∧ True ∧ True ∧ EqA (AVal.int .i64 0) (AVal.int .i64 0) ∧ True) ∧ EqR (Res.vec 45 [])
  (Res.vec 45 []) ∧ True) ∧ True)) (cnd (decide ((0 : Int) < (↑(List.length load) : Int))) (((0 : Int) ≤ (0 : Int) ∧ (0 : Int) < (↑(List.length load) : Int)) ∧ List.length (List.getD load (0 : Nat)
  (YtaeepogbgflbpaaGreat.K.dflt (tab (48 : TypeId)))) ≤ (1000 : Nat) ∧ cnd (anyW (List.getD load (0 : Nat) (YtaeepogbgflbpaaGreat.K.dflt (tab (48 : TypeId))))) (K none (3 : Int)) (cnd (decide ((1 : Int)
  < (↑(List.length load) : Int))) (((0 : Int) ≤ (1 : Int) ∧ (1 : Int) < (↑(List.length load) : Int)) ∧ List.length (List.getD load (1 : Nat) (YtaeepogbgflbpaaGreat.K.dflt (tab (48 : TypeId)))) ≤ (1000 :
  Nat) ∧ cnd (anyW (List.getD load (1 : Nat) (YtaeepogbgflbpaaGreat.K.dflt (tab (48 : TypeId))))) (K none (3 : Int)) (cnd (decide ((2 : Int) < (↑(List.length load) : Int))) (((0 : Int) ≤ (2 : Int) ∧ (2
  : Int) < (↑(List.length load) : Int)) ∧ List.length (List.getD load (2 : Nat) (YtaeepogbgflbpaaGreat.K.dflt (tab (48 : TypeId)))) ≤ (1000 : Nat) ∧ cnd (anyW (List.getD load (2 : Nat)
  (YtaeepogbgflbpaaGreat.K.dflt (tab (48 : TypeId))))) (K none (3 : Int)) (cnd (decide ((3 : Int) < (↑(List.length load) : Int))) (((0 : Int) ≤ (3 : Int) ∧ (3 : Int) < (↑(List.length load) : Int)) ∧
  List.length (List.getD load (3 : Nat) (YtaeepogbgflbpaaGreat.K.dflt (tab (48 : TypeId)))) ≤ (1000 : Nat) ∧ cnd (anyW (List.getD load (3 : Nat) (YtaeepogbgflbpaaGreat.K.dflt (tab (48 : TypeId))))) (K
  none (3 : Int)) (cnd (decide ((4 : Int) < (↑(List.length load) : Int))) (((0 : Int) ≤ (4 : Int) ∧ (4 : Int) < (↑(List.length load) : Int)) ∧ List.length (List.getD load (4 : Nat)
  (YtaeepogbgflbpaaGreat.K.dflt (tab (48 : TypeId)))) ≤ (1000 : Nat) ∧ cnd (anyW (List.getD load (4 : Nat) (YtaeepogbgflbpaaGreat.K.dflt (tab (48 : TypeId))))) (K none (3 : Int)) (cnd (decide ((5 : Int)
  < (↑(List.length load) : Int))) (((0 : Int) ≤ (5 : Int) ∧ (5 : Int) < (↑(List.length load) : Int)) ∧ List.length (List.getD load (5 : Nat) (YtaeepogbgflbpaaGreat.K.dflt (tab (48 : TypeId)))) ≤ (1000 :
  Nat) ∧ cnd (anyW (List.getD load (5 : Nat) (YtaeepogbgflbpaaGreat.K.dflt (tab (48 : TypeId))))) (K none (3 : Int)) (cnd (decide ((6 : Int) < (↑(List.length load) : Int))) (((0 : Int) ≤ (6 : Int) ∧ (6
  : Int) < (↑(List.length load) : Int)) ∧ List.length (List.getD load (6 : Nat) (YtaeepogbgflbpaaGreat.K.dflt (tab (48 : TypeId)))) ≤ (1000 : Nat) ∧ cnd (anyW (List.getD load (6 : Nat)
  (YtaeepogbgflbpaaGreat.K.dflt (tab (48 : TypeId))))) (K none (3 : Int)) (cnd (decide ((7 : Int) < (↑(List.length load) : Int))) (((0 : Int) ≤ (7 : Int) ∧ (7 : Int) < (↑(List.length load) : Int)) ∧
  List.length (List.getD load (7 : Nat) (YtaeepogbgflbpaaGreat.K.dflt (tab (48 : TypeId)))) ≤ (1000 : Nat) ∧ cnd (anyW (List.getD load (7 : Nat) (YtaeepogbgflbpaaGreat.K.dflt (tab (48 : TypeId))))) (K
  none (3 : Int)) (cnd (decide ((8 : Int) < (↑(List.length load) : Int))) (((0 : Int) ≤ (8 : Int) ∧ (8 : Int) < (↑(List.length load) : Int)) ∧ List.length (List.getD load (8 : Nat)
  (YtaeepogbgflbpaaGreat.K.dflt (tab (48 : TypeId)))) ≤ (1000 : Nat) ∧ cnd (anyW (List.getD load (8 : Nat) (YtaeepogbgflbpaaGreat.K.dflt (tab (48 : TypeId))))) False (cnd (decide ((9 : Int) <
  (↑(List.length load) : Int))) (((0 : Int) ≤ (9 : Int) ∧ (9 : Int) < (↑(List.length load) : Int)) ∧ List.length (List.getD load (9 : Nat) (YtaeepogbgflbpaaGreat.K.dflt (tab (48 : TypeId)))) ≤ (1000 :
  Nat) ∧ cnd (anyW (List.getD load (9 : Nat) (YtaeepogbgflbpaaGreat.K.dflt (tab (48 : TypeId))))) False False) (K (some (Hl.mk (Md.mk x (Acc.mk 0 0 0 0 0) (firstV x)) (newL x.w load s) [] 0 (Tk.mk [] []
  [] [] [] [] [] []))) (0 : Int)))) (K (some (Hl.mk (Md.mk x (Acc.mk 0 0 0 0 0) (firstV x)) (newL x.w load s) [] 0 (Tk.mk [] [] [] [] [] [] [] []))) (0 : Int)))) (K (some (Hl.mk (Md.mk x (Acc.mk 0 0 0 0
  0) (firstV x)) (newL x.w load s) [] 0 (Tk.mk [] [] [] [] [] [] [] []))) (0 : Int)))) (K (some (Hl.mk (Md.mk x (Acc.mk 0 0 0 0 0) (firstV x)) (newL x.w load s) [] 0 (Tk.mk [] [] [] [] [] [] [] []))) (0
  : Int)))) (K (some (Hl.mk (Md.mk x (Acc.mk 0 0 0 0 0) (firstV x)) (newL x.w load s) [] 0 (Tk.mk [] [] [] [] [] [] [] []))) (0 : Int)))) (K (some (Hl.mk (Md.mk x (Acc.mk 0 0 0 0 0) (firstV x)) (newL
  x.w load s) [] 0 (Tk.mk [] [] [] [] [] [] [] []))) (0 : Int)))) (K (some (Hl.mk (Md.mk x (Acc.mk 0 0 0 0 0) (firstV x)) (newL x.w load s) [] 0 (Tk.mk [] [] [] [] [] [] [] []))) (0 : Int)))) (K (some
  (Hl.mk (Md.mk x (Acc.mk 0 0 0 0 0) (firstV x)) (newL x.w load s) [] 0 (Tk.mk [] [] [] [] [] [] [] []))) (0 : Int)))) (K (some (Hl.mk (Md.mk x (Acc.mk 0 0 0 0 0) (firstV x)) (newL x.w load s) [] 0
  (Tk.mk [] [] [] [] [] [] [] []))) (0 : Int)))) (K (some (Hl.mk (Md.mk x (Acc.mk 0 0 0 0 0) (firstV x)) (newL x.w load s) [] 0 (Tk.mk [] [] [] [] [] [] [] []))) (0 : Int)))))) (cnd (checkV x != (0 :
  Int)) (K none (checkV x)) (cnd (decide ((↑(List.length load) : Int) > x.w)) (K none (1 : Int)) (((0 : Int) ≤ x.w ∧ x.w = x.w ∧ (↑(416 : Nat) : Int) * x.w ≤ (140737488355328 : Int) ∧ x.w ≤
  (140737488355328 : Int)) ∧ (∃ (s0 : Nat), (s0 ≤ List.length load ∧ (List.any (List.take s0 load) fun (l : List OpD) => decide ((200 : Nat) < List.length l)) = false) ∧ (EqA (AVal.int .i64 0) (AVal.int
  .i64 (↑s0 : Int)) ∧ True) ∧ (EqR (Res.cells 24 [AVal.int .i64 x.w, AVal.int .i64 x.s, AVal.int .i64 x.b, AVal.int .i64 x.o, AVal.int .i64 x.e, AVal.int .i64 x.r, AVal.int .i64 x.a, AVal.int .u64 x.l])
  (Res.cells 24 [AVal.int .i64 x.w, AVal.int .i64 x.s, AVal.int .i64 x.b, AVal.int .i64 x.o, AVal.int .i64 x.e, AVal.int .i64 x.r, AVal.int .i64 x.a, AVal.int .u64 x.l]) ∧ (EqR (Res.recs 59
  (List.replicate (Int.toNat x.w) (YtaeepogbgflbpaaGreat.K.dflt (tab (59 : Nat)))) 35 []) (Res.recs 59 (newL x.w load s0) 35 []) ∧ ([AVal.vec 2, AVal.vec 3, AVal.vec 4, AVal.vec 5, AVal.vec 6, AVal.vec
  7, AVal.vec 8, AVal.vec 9] : List (AVal El)) = [AVal.vec 2, AVal.vec 3, AVal.vec 4, AVal.vec 5, AVal.vec 6, AVal.vec 7, AVal.vec 8, AVal.vec 9]) ∧ EqR (Res.vec 22 []) (Res.vec 22 []) ∧ EqR (Res.vec 22
  []) (Res.vec 22 []) ∧ EqR (Res.vec 22 []) (Res.vec 22 []) ∧ EqR (Res.vec 22 []) (Res.vec 22 []) ∧ EqR (Res.vec 22 []) (Res.vec 22 []) ∧ EqR (Res.vec 22 []) (Res.vec 22 []) ∧ EqR (Res.vec 22 [])
  (Res.vec 22 []) ∧ EqR (Res.vec 22 []) (Res.vec 22 []) ∧ (True ∧ EqA AVal.nilp AVal.nilp ∧ True ∧ True ∧ EqA (AVal.int .i64 0) (AVal.int .i64 0) ∧ True) ∧ ([] : List Ev) = [] ∧ True) ∧ True) ∧ ∀ (s :
  Nat), s ≤ List.length load ∧ (List.any (List.take s load) fun (l : List OpD) => decide ((200 : Nat) < List.length l)) = false → cnd (decide ((↑s : Int) < (↑(List.length load) : Int))) (((0 : Int) ≤
  (↑s : Int) ∧ (↑s : Int) < (↑(List.length load) : Int)) ∧ cnd (decide ((↑(List.length (List.getD load (Int.toNat (↑s : Int)) (YtaeepogbgflbpaaGreat.K.dflt (tab (48 : TypeId))))) : Int) > (200 : Int)))
  (K none (5 : Int)) (List.length (List.getD load (Int.toNat (↑s : Int)) (YtaeepogbgflbpaaGreat.K.dflt (tab (48 : TypeId)))) ≤ (100000 : Nat) ∧ List.length (List.getD load (Int.toNat (↑s : Int))
  (YtaeepogbgflbpaaGreat.K.dflt (tab (48 : TypeId)))) ≤ (100000 : Nat) ∧ ((0 : Int) ≤ (↑s : Int) ∧ (↑s : Int) < (↑(List.length (newL x.w load s)) : Int)) ∧ Int.toNat (↑s : Int) < List.length (newL x.w
  load s) ∧ ∃ (s' : Nat), (s' ≤ List.length load ∧ (List.any (List.take s' load) fun (l : List OpD) => decide ((200 : Nat) < List.length l)) = false) ∧ List.length load - s' < List.length load - s ∧
  (EqA (AVal.int .i64 (wr ((↑s : Int) + (1 : Int)))) (AVal.int .i64 (↑s' : Int)) ∧ True) ∧ (EqR (Res.cells 24 [AVal.int .i64 x.w, AVal.int .i64 x.s, AVal.int .i64 x.b, AVal.int .i64 x.o, AVal.int .i64
  x.e, AVal.int .i64 x.r, AVal.int .i64 x.a, AVal.int .u64 x.l]) (Res.cells 24 [AVal.int .i64 x.w, AVal.int .i64 x.s, AVal.int .i64 x.b, AVal.int .i64 x.o, AVal.int .i64 x.e, AVal.int .i64 x.r, AVal.int
  .i64 x.a, AVal.int .u64 x.l]) ∧ (EqR (Res.recs 59 (List.set (newL x.w load s) (Int.toNat (↑s : Int)) (Wr.with1 (List.getD (newL x.w load s) (Int.toNat (↑s : Int)) (YtaeepogbgflbpaaGreat.K.dflt (tab
  (59 : TypeId)))) (id (List.getD load (Int.toNat (↑s : Int)) (YtaeepogbgflbpaaGreat.K.dflt (tab (48 : TypeId))))))) 35 []) (Res.recs 59 (newL x.w load s') 35 []) ∧ ([AVal.vec 2, AVal.vec 3, AVal.vec 4,
  AVal.vec 5, AVal.vec 6, AVal.vec 7, AVal.vec 8, AVal.vec 9] : List (AVal El)) = [AVal.vec 2, AVal.vec 3, AVal.vec 4, AVal.vec 5, AVal.vec 6, AVal.vec 7, AVal.vec 8, AVal.vec 9]) ∧ EqR (Res.vec 22 [])
  (Res.vec 22 []) ∧ EqR (Res.vec 22 []) (Res.vec 22 []) ∧ EqR (Res.vec 22 []) (Res.vec 22 []) ∧ EqR (Res.vec 22 []) (Res.vec 22 []) ∧ EqR (Res.vec 22 []) (Res.vec 22 []) ∧ EqR (Res.vec 22 []) (Res.vec
  22 []) ∧ EqR (Res.vec 22 []) (Res.vec 22 []) ∧ EqR (Res.vec 22 []) (Res.vec 22 []) ∧ (True ∧ EqA AVal.nilp AVal.nilp ∧ True ∧ True ∧ EqA (AVal.int .i64 0) (AVal.int .i64 0) ∧ True) ∧ EqR (Res.vec 45
  []) (Res.vec 45 []) ∧ True) ∧ True)) (cnd (decide ((0 : Int) < (↑(List.length load) : Int))) (((0 : Int) ≤ (0 : Int) ∧ (0 : Int) < (↑(List.length load) : Int)) ∧ List.length (List.getD load (0 : Nat)
  (YtaeepogbgflbpaaGreat.K.dflt (tab (48 : TypeId)))) ≤ (1000 : Nat) ∧ cnd (anyW (List.getD load (0 : Nat) (YtaeepogbgflbpaaGreat.K.dflt (tab (48 : TypeId))))) (K none (3 : Int)) (cnd (decide ((1 : Int)
  < (↑(List.length load) : Int))) (((0 : Int) ≤ (1 : Int) ∧ (1 : Int) < (↑(List.length load) : Int)) ∧ List.length (List.getD load (1 : Nat) (YtaeepogbgflbpaaGreat.K.dflt (tab (48 : TypeId)))) ≤ (1000 :
  Nat) ∧ cnd (anyW (List.getD load (1 : Nat) (YtaeepogbgflbpaaGreat.K.dflt (tab (48 : TypeId))))) (K none (3 : Int)) (cnd (decide ((2 : Int) < (↑(List.length load) : Int))) (((0 : Int) ≤ (2 : Int) ∧ (2
  : Int) < (↑(List.length load) : Int)) ∧ List.length (List.getD load (2 : Nat) (YtaeepogbgflbpaaGreat.K.dflt (tab (48 : TypeId)))) ≤ (1000 : Nat) ∧ cnd (anyW (List.getD load (2 : Nat)
  (YtaeepogbgflbpaaGreat.K.dflt (tab (48 : TypeId))))) (K none (3 : Int)) (cnd (decide ((3 : Int) < (↑(List.length load) : Int))) (((0 : Int) ≤ (3 : Int) ∧ (3 : Int) < (↑(List.length load) : Int)) ∧
  List.length (List.getD load (3 : Nat) (YtaeepogbgflbpaaGreat.K.dflt (tab (48 : TypeId)))) ≤ (1000 : Nat) ∧ cnd (anyW (List.getD load (3 : Nat) (YtaeepogbgflbpaaGreat.K.dflt (tab (48 : TypeId))))) (K
  none (3 : Int)) (cnd (decide ((4 : Int) < (↑(List.length load) : Int))) (((0 : Int) ≤ (4 : Int) ∧ (4 : Int) < (↑(List.length load) : Int)) ∧ List.length (List.getD load (4 : Nat)
  (YtaeepogbgflbpaaGreat.K.dflt (tab (48 : TypeId)))) ≤ (1000 : Nat) ∧ cnd (anyW (List.getD load (4 : Nat) (YtaeepogbgflbpaaGreat.K.dflt (tab (48 : TypeId))))) (K none (3 : Int)) (cnd (decide ((5 : Int)
  < (↑(List.length load) : Int))) (((0 : Int) ≤ (5 : Int) ∧ (5 : Int) < (↑(List.length load) : Int)) ∧ List.length (List.getD load (5 : Nat) (YtaeepogbgflbpaaGreat.K.dflt (tab (48 : TypeId)))) ≤ (1000 :
  Nat) ∧ cnd (anyW (List.getD load (5 : Nat) (YtaeepogbgflbpaaGreat.K.dflt (tab (48 : TypeId))))) (K none (3 : Int)) (cnd (decide ((6 : Int) < (↑(List.length load) : Int))) (((0 : Int) ≤ (6 : Int) ∧ (6
  : Int) < (↑(List.length load) : Int)) ∧ List.length (List.getD load (6 : Nat) (YtaeepogbgflbpaaGreat.K.dflt (tab (48 : TypeId)))) ≤ (1000 : Nat) ∧ cnd (anyW (List.getD load (6 : Nat)
  (YtaeepogbgflbpaaGreat.K.dflt (tab (48 : TypeId))))) (K none (3 : Int)) (cnd (decide ((7 : Int) < (↑(List.length load) : Int))) (((0 : Int) ≤ (7 : Int) ∧ (7 : Int) < (↑(List.length load) : Int)) ∧
  List.length (List.getD load (7 : Nat) (YtaeepogbgflbpaaGreat.K.dflt (tab (48 : TypeId)))) ≤ (1000 : Nat) ∧ cnd (anyW (List.getD load (7 : Nat) (YtaeepogbgflbpaaGreat.K.dflt (tab (48 : TypeId))))) (K
  none (3 : Int)) (cnd (decide ((8 : Int) < (↑(List.length load) : Int))) (((0 : Int) ≤ (8 : Int) ∧ (8 : Int) < (↑(List.length load) : Int)) ∧ List.length (List.getD load (8 : Nat)
  (YtaeepogbgflbpaaGreat.K.dflt (tab (48 : TypeId)))) ≤ (1000 : Nat) ∧ cnd (anyW (List.getD load (8 : Nat) (YtaeepogbgflbpaaGreat.K.dflt (tab (48 : TypeId))))) False (cnd (decide ((9 : Int) <
  (↑(List.length load) : Int))) (((0 : Int) ≤ (9 : Int) ∧ (9 : Int) < (↑(List.length load) : Int)) ∧ List.length (List.getD load (9 : Nat) (YtaeepogbgflbpaaGreat.K.dflt (tab (48 : TypeId)))) ≤ (1000 :
  Nat) ∧ cnd (anyW (List.getD load (9 : Nat) (YtaeepogbgflbpaaGreat.K.dflt (tab (48 : TypeId))))) False False) False)) False)) False)) False)) False)) False)) False)) False)) False)) False))))) := by
  kernel_rfl

end Go.Proofs.YtaeepogbgflbpaaGreat
end

/- The contract of making a hall. No condition. -/
section
set_option linter.unusedVariables false
set_option linter.unusedSimpArgs false
set_option maxRecDepth 100000
set_option maxHeartbeats 1000000
namespace Go.Proofs.YtaeepogbgflbpaaGreat
open Go Go.Ax

theorem take_any {α : Type} (p : α → Bool) (l : List α) (i : Nat) (h : i < l.length) (d : α) : (l.take (i + 1)).any p = ((l.take i).any p || p (l.getD i d)) := by
  rw [List.take_add_one, List.getElem?_eq_getElem h, List.any_append, List.getD_eq_getElem?_getD, List.getElem?_eq_getElem h]; simp
theorem getD_mem {α : Type} (l : List α) (i : Nat) (h : i < l.length) (d : α) : l.getD i d ∈ l := by
  rw [List.getD_eq_getElem?_getD, List.getElem?_eq_getElem h]; exact List.getElem_mem h
theorem any_of_take {α : Type} (p : α → Bool) (l : List α) (i : Nat) (h : (l.take i).any p = true) : l.any p = true := by
  rw [List.any_eq_true] at h ⊢
  obtain ⟨a, h1, h2⟩ := h
  exact ⟨a, List.mem_of_mem_take h1, h2⟩
theorem chain_step {load : List (List OpD)} {A B N : Prop} (i : Nat) (j : Int) (hj : j = i) (hg : goodLoad load) (hp : (load.take i).any anyW = false)
    (hA : load.any anyW = true → A) (hB : load.any anyW = false → B) (hN : (load.take (i + 1)).any anyW = false → i < load.length → N) :
    cnd (decide (j < (load.length : Int))) ((0 ≤ j ∧ j < (load.length : Int)) ∧ (load.getD i (K.dflt (tab (48 : TypeId)))).length ≤ 1000 ∧ cnd (anyW (load.getD i (K.dflt (tab (48 : TypeId))))) A N) B := by
  subst hj
  refine cnd_intro (fun c => ?_) (fun c => ?_)
  · have c : i < load.length := by have := of_decide_eq_true c; omega
    have t := take_any anyW load i c (K.dflt (tab (48 : TypeId)))
    refine ⟨⟨by omega, by omega⟩, hg.2 _ (getD_mem _ _ c _), cnd_intro (fun d => hA (any_of_take _ _ (i + 1) ?_)) (fun d => hN ?_ c)⟩
    · rw [t]; exact Bool.or_eq_true_iff.2 (.inr d)
    · rw [t, hp]; exact d
  · have c : ¬ i < load.length := by have := of_decide_eq_false c; omega
    rw [List.take_of_length_le (by omega)] at hp
    exact hB hp
theorem newL_len (w : Int) (load : List (List OpD)) (i : Nat) : (newL w load i).length = w.toNat := by
  induction i with
  | zero => simp [newL]
  | succ i ih => simp [newL, ih]
theorem ok10 : GOk cx 10 gHall := gnew_ok ΓJ_ok Tryz.func10 (body_of (by kernel_rfl)) Tryz.call10 (fun ⟨x, load⟩ hp => ⟨specNew x.w load, 100, by
  have hp : goodLoad load := hp
  have e := vc_hnew (fun o b => b = newE (x, load) ∧ match o with | some s => hallB (x, load) = true ∧ s = newH (x, load) | none => hallB (x, load) = false) x load
  refine Eq.mpr e ⟨trivial, cnd_intro (fun c1 => cnd_intro (fun c2 => ?_) (fun _ => cnd_intro (fun c3 => ?_) (fun c3 => ?_))) (fun c1 => cnd_intro (fun c2 => ?_) (fun c2 => ?_))⟩
  · have c1 : checkV x = 0 := of_decide_eq_true c1
    rw [c1] at c2; exact absurd c2 (by decide)
  · have c1 : checkV x = 0 := of_decide_eq_true c1
    have c3 : x.w < (load.length : Int) := of_decide_eq_true c3
    have h : newE (x, load) = 1 := by unfold newE; rw [if_pos c1, if_pos c3]
    refine ⟨h.symm, ?_⟩
    show hallB (x, load) = false
    unfold hallB; rw [h]; rfl
  · have c1 : checkV x = 0 := of_decide_eq_true c1
    have c3 : ¬ x.w < (load.length : Int) := of_decide_eq_false c3
    have Z := (sizes_of c1).w
    refine ⟨⟨by omega, rfl, by omega, by omega⟩, ⟨0, ⟨Nat.zero_le _, rfl⟩, ⟨rfl, trivial⟩, ⟨rfl, rfl, rfl, ⟨rfl, rfl⟩, rfl, rfl, rfl, rfl, rfl, rfl, rfl, rfl, ⟨trivial, trivial, trivial, trivial, rfl, trivial⟩, rfl, trivial⟩, trivial⟩, ?_⟩
    intro s ⟨hs, ha⟩
    refine cnd_intro (fun c => ?_) (fun c => ?_)
    · have c : s < load.length := by have := of_decide_eq_true c; omega
      have t := take_any (fun l => decide (200 < l.length)) load s c (K.dflt (tab (48 : TypeId)))
      refine ⟨⟨by omega, by omega⟩, cnd_intro (fun d => ?_) (fun d => ?_)⟩
      · have d : 200 < (load.getD s (K.dflt (tab (48 : TypeId)))).length := by have := of_decide_eq_true d; rw [Int.toNat_natCast] at this; omega
        have h5 : (load.any fun l => decide (200 < l.length)) = true := any_of_take _ _ (s + 1) (by rw [t]; exact Bool.or_eq_true_iff.2 (.inr (decide_eq_true d)))
        have h : newE (x, load) = 5 := by unfold newE; rw [if_pos c1, if_neg c3, if_pos h5]
        refine ⟨h.symm, ?_⟩
        show hallB (x, load) = false
        unfold hallB; rw [h]; rfl
      · have d : ¬ 200 < (load.getD s (K.dflt (tab (48 : TypeId)))).length := by have := of_decide_eq_false d; rw [Int.toNat_natCast] at this; omega
        have hl := newL_len x.w load s
        have hsm : (load.getD s (K.dflt (tab (48 : TypeId)))).length ≤ 100000 := by omega
        refine ⟨by rw [Int.toNat_natCast]; exact hsm, by rw [Int.toNat_natCast]; exact hsm, ⟨by omega, by omega⟩, by rw [Int.toNat_natCast]; omega, s + 1, ⟨by omega, ?_⟩, by omega, ⟨next_int (by omega) (Int.ofNat_le.2 hp.1), trivial⟩,
          ⟨rfl, rfl, rfl, ⟨?_, rfl⟩, rfl, rfl, rfl, rfl, rfl, rfl, rfl, rfl, ⟨trivial, trivial, trivial, trivial, rfl, trivial⟩, rfl, trivial⟩, trivial⟩
        · rw [t, ha]; simpa using d
        · rfl
    · have c : ¬ s < load.length := by have := of_decide_eq_false c; omega
      obtain rfl : s = load.length := by omega
      rw [List.take_of_length_le (Nat.le_refl _)] at ha
      have ha' : ¬ (load.any fun l => decide (200 < l.length)) = true := by rw [ha]; simp
      have hA : load.any anyW = true → (3 : Int) = newE (x, load) ∧ hallB (x, load) = false := fun h => by
        have h : newE (x, load) = 3 := by unfold newE; rw [if_pos c1, if_neg c3, if_neg ha', if_pos h]
        exact ⟨h.symm, by unfold hallB; rw [h]; rfl⟩
      have hB : load.any anyW = false → (0 : Int) = newE (x, load) ∧ hallB (x, load) = true ∧ newH (x, load) = newH (x, load) := fun h => by
        have h : newE (x, load) = 0 := by unfold newE; rw [if_pos c1, if_neg c3, if_neg ha', if_neg (by rw [h]; simp)]
        exact ⟨h.symm, by unfold hallB; rw [h]; rfl, rfl⟩
      refine chain_step 0 0 rfl hp rfl hA hB (fun h0 l0 => ?_)
      refine chain_step 1 1 rfl hp h0 hA hB (fun h1 l1 => ?_)
      refine chain_step 2 2 rfl hp h1 hA hB (fun h2 l2 => ?_)
      refine chain_step 3 3 rfl hp h2 hA hB (fun h3 l3 => ?_)
      refine chain_step 4 4 rfl hp h3 hA hB (fun h4 l4 => ?_)
      refine chain_step 5 5 rfl hp h4 hA hB (fun h5 l5 => ?_)
      refine chain_step 6 6 rfl hp h5 hA hB (fun h6 l6 => ?_)
      refine chain_step 7 7 rfl hp h6 hA hB (fun h7 l7 => ?_)
      refine cnd_intro (fun q => ?_) (fun _ => hB ?_)
      · have := of_decide_eq_true q; omega
      · rw [List.take_of_length_le (by omega)] at h7; exact h7
  · have c1 : ¬ checkV x = 0 := of_decide_eq_false c1
    have h : newE (x, load) = checkV x := by unfold newE; rw [if_neg c1]
    refine ⟨h.symm, ?_⟩
    show hallB (x, load) = false
    unfold hallB; rw [h]; simpa using c1
  · have c1 : ¬ checkV x = 0 := of_decide_eq_false c1
    exact absurd (show checkV x = 0 by simpa using c2) c1⟩)
end Go.Proofs.YtaeepogbgflbpaaGreat
end

/- Many picks: what the function computes, in plain Lean. No condition. -/
section
set_option linter.unusedVariables false
set_option linter.unusedSimpArgs false
set_option maxRecDepth 100000
set_option maxHeartbeats 1000000
namespace Go.Proofs.YtaeepogbgflbpaaGreat
open Go Go.Ax

/-- The hall after the first picks. -/
def stR (h : Hl) (picks : List Int) (i : Nat) : Hl := (picks.take i).foldl pickH h
def runH (h : Hl) (picks : List Int) : Hl := picks.foldl pickH h
def pickP (h : Hl) (w : Int) : Prop := Fine h ∧ (isW h w = true → okLine (wrAt h w).x ∨ (wrAt h w).x.line = 0)
def runP (h : Hl) (picks : List Int) : Prop := picks.length ≤ 1000 ∧ ∀ i, i < picks.length → pickP (stR h picks i) (picks.getD i 0)
/-- A hall whose changing slices bear names from 'L' on. -/
def headG (h : Hl) (L : Nat) : List (Nat × Res El) := [(0, .cells 63 [.ptr 1 0, .vec 2, .vec L, .int .i64 h.tick]), (1, .cells 103 (cdHdr.enc (h.m.c, h.m.seen) ++ [.vec 4])),
  (2, .recs 59 h.l 35 [.vec (L + 1), .vec (L + 2), .vec (L + 3), .vec (L + 4), .vec (L + 5), .vec (L + 6), .vec (L + 7), .vec (L + 8)]), (4, .vec 22 h.m.ws),
  (3, .dead), (5, .dead), (6, .dead), (7, .dead), (8, .dead), (9, .dead), (10, .dead), (11, .dead), (12, .dead),
  (L, .vec 45 h.ev), (L + 1, .vec 22 h.told.t0), (L + 2, .vec 22 h.told.t1), (L + 3, .vec 22 h.told.t2), (L + 4, .vec 22 h.told.t3), (L + 5, .vec 22 h.told.t4), (L + 6, .vec 22 h.told.t5), (L + 7, .vec 22 h.told.t6), (L + 8, .vec 22 h.told.t7)]
def freshG : List Go.Ax.Loc := [.cell 0 2, .name 2 0, .name 2 1, .name 2 2, .name 2 3, .name 2 4, .name 2 5, .name 2 6, .name 2 7]
noncomputable def specRun (h : Hl) (picks : List Int) : Nat → Option (St El → LSpec El) := addSpec noSpec 1 fun st =>
  { σ := Nat, slots := fun i => [(8, .int .i64 i)], res := fun i => headG (stR h picks i) (lenR st.res), inv := fun i => i ≤ picks.length, meas := fun i => picks.length - i, fresh := freshG }
noncomputable def gRun : GSpec El := gcall GH aL .unit runP (fun h p => (runH h p, ()))
noncomputable def ΓQ : FuncId → Option (GSpec El) := addΓ noΓ 27 gPick
theorem ΓQ_ok : ∀ f g, ΓQ f = some g → GOk cx f g := addΓ_ok noΓ_ok ok27
end Go.Proofs.YtaeepogbgflbpaaGreat
end
