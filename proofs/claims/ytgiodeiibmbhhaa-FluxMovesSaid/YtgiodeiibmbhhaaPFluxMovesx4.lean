-- Written by this session's own program (wip/mp, over the kit's print) for this claim; Lean checks it.
import Derived.Test.YtgiodeiibmbhhaaPFluxMovesx0
import Derived.Test.YtgiodeiibmbhhaaPFluxMovesx1
import Derived.Test.YtgiodeiibmbhhaaPFluxMovesx2
import Derived.Test.YtgiodeiibmbhhaaPFluxMovesx3
namespace Go.Proofs.Ytgiodeiibmbhhaa.PFluxMoves
open Go.RowKit Go.Proofs.YtgiodeiibmbhhaaW.PrintWords Go.Proofs.YtgiodeiibmbhhaaW.PrintLast Go.Proofs.YtgiodeiibmbhhaaW.PrintMore
attribute [local go_sem] max2_int min2_int max_two min_two max_three min_three max_four min_four   -- for this text's walks alone
set_option linter.unusedVariables false
set_option linter.unusedSimpArgs false

/-! ### bakelaw2_FluxMoves: function 8 -/
mutual
def bakelaw2_FluxMoves.j0 : Nat → List Int → Int → Int → List Int → Int → List Int → Int → List Int → Int → List Int → List Int → Int → Int → Bool → Option (Bool)
  | 0, _, _, _, _, _, _, _, _, _, _, _, _, _, _ => none
  | k + 1, x0, x1, x2, x3, x4, x11, x12, x13, x14, x16, x17, x18, x19, x69 => if x69 = true then ((bakeref2_Times.f k x0).bind fun t177 => (bakelaw2_FluxMoves.l0 k x0 x1 x2 x3 x4 x11 x12 x13 x14 x17 x19 t177 (t177.length : Int) 0)) else (bakelaw2_FluxMoves.j2 k x0 x3 x4 x11 x12 x13 x14 x16 x17 x18 x19)
def bakelaw2_FluxMoves.j2 : Nat → List Int → List Int → Int → List Int → Int → List Int → Int → List Int → List Int → Int → Int → Option (Bool)
  | 0, _, _, _, _, _, _, _, _, _, _, _ => none
  | k + 1, x0, x3, x4, x11, x12, x13, x14, x16, x17, x18, x19 => if x4 ≥ 0 then (bakelaw2_FluxMoves.j3 k x0 x3 x4 x11 x12 x13 x14 x16 x17 x18 x19 (decide (x4 ≤ 100000))) else (bakelaw2_FluxMoves.j3 k x0 x3 x4 x11 x12 x13 x14 x16 x17 x18 x19 false)
def bakelaw2_FluxMoves.j3 : Nat → List Int → List Int → Int → List Int → Int → List Int → Int → List Int → List Int → Int → Int → Bool → Option (Bool)
  | 0, _, _, _, _, _, _, _, _, _, _, _, _ => none
  | k + 1, x0, x3, x4, x11, x12, x13, x14, x16, x17, x18, x19, x108 => if x108 = true then ((bakeref2_Times.f k x0).bind fun t187 => (bakelaw2_FluxMoves.l1 k x3 x4 x11 x12 x13 x14 x16 x18 t187 (t187.length : Int) 0)) else (if x12 = x18 then (if x14 = x19 then ((slices_Equal_api_Track_int.f k x11 x16).bind fun t199 => (if t199 = true then ((slices_Equal_api_Track_int.f k x13 x17).bind fun t200 => (some t200)) else (some false))) else (some false)) else (some false))
def bakelaw2_FluxMoves.l1 : Nat → List Int → Int → List Int → Int → List Int → Int → List Int → Int → List Int → Int → Int → Option (Bool)
  | 0, _, _, _, _, _, _, _, _, _, _, _ => none
  | k + 1, x3, x4, x11, x12, x13, x14, x16, x18, x22, x112, x113 => if x113 < x112 then (if (x3.length : Int) > 0 then (if 0 ≤ x113 then (if x113 < (x22.length : Int) then (if (x3.length : Int) = 0 then (none) else (if 0 ≤ (Int.tmod x113 (x3.length : Int)) then (if (Int.tmod x113 (x3.length : Int)) < (x3.length : Int) then (bakelaw2_FluxMoves.l1 k x3 x4 x11 x12 x13 x14 x16 x18 (x22.set (x113 : Int).toNat (wrap64 ((rd x22 x113) + (mn x4 (mx (wrap64 (-x4)) (rd x3 (Int.tmod x113 (x3.length : Int)))))))) x112 (wrap64 (x113 + 1))) else (none)) else (none))) else (none)) else (none)) else (bakelaw2_FluxMoves.l1 k x3 x4 x11 x12 x13 x14 x16 x18 x22 x112 (wrap64 (x113 + 1)))) else ((bakeref2_Between.f k x22).bind fun bt193 => (if x12 = x18 then (if x14 = bt193.2 then ((slices_Equal_api_Track_int.f k x11 x16).bind fun t197 => (if t197 = true then ((slices_Equal_api_Track_int.f k x13 bt193.1).bind fun t198 => (some t198)) else (some false))) else (some false)) else (some false)))
def bakelaw2_FluxMoves.l0 : Nat → List Int → Int → Int → List Int → Int → List Int → Int → List Int → Int → List Int → Int → List Int → Int → Int → Option (Bool)
  | 0, _, _, _, _, _, _, _, _, _, _, _, _, _, _ => none
  | k + 1, x0, x1, x2, x3, x4, x11, x12, x13, x14, x17, x19, x20, x73, x74 => if x74 < x73 then (if 0 ≤ x74 then (if x74 < (x20.length : Int) then (if x2 = 0 then (none) else (bakelaw2_FluxMoves.l0 k x0 x1 x2 x3 x4 x11 x12 x13 x14 x17 x19 (x20.set (x74 : Int).toNat (wrap64 (Int.tdiv (wrap64 ((wrap64 ((rd x20 x74) * x1)) - (Int.tmod (wrap64 ((rd x20 x74) * x1)) x2))) x2))) x73 (wrap64 (x74 + 1)))) else (none)) else (none)) else ((bakeref2_Between.f k x20).bind fun bt183 => (bakelaw2_FluxMoves.j2 k x0 x3 x4 x11 x12 x13 x14 bt183.1 x17 bt183.2 x19))
end
def bakelaw2_FluxMoves.f (k : Nat) (l0 : List Int) (a1 : Int) (a2 : Int) (l3 : List Int) (a4 : Int) : Option (Bool) := (bakelaw2_fluxBegun.f k).bind fun t167 => (if t167 = true then ((flux_Speed.f k l0 a1 a2).bind fun bt168 => ((flux_Shake.f k l0 l3 a4).bind fun bt172 => ((bakeref2_TrackErr.f k l0).bind fun t176 => (if t176 = 0 then (if (mn a1 a2) > 0 then (bakelaw2_FluxMoves.j0 k l0 a1 a2 l3 a4 bt168.1 bt168.2 bt172.1 bt172.2 ([] : List Int) ([] : List Int) 1 1 (decide ((mx a1 a2) ≤ 1000))) else (bakelaw2_FluxMoves.j0 k l0 a1 a2 l3 a4 bt168.1 bt168.2 bt172.1 bt172.2 ([] : List Int) ([] : List Int) 1 1 false)) else (if bt168.2 = t176 then (if bt172.2 = t176 then (some ((wrap64 ((bt168.1.length : Int) + (bt172.1.length : Int))) == 0)) else (some false)) else (some false)))))) else (some false))
theorem bakelaw2_FluxMoves.mono_l : ∀ k, (∀ y0 y1 y2 y3 y4 y5 y6 y7 y8 y9 y10 y11 y12 y13, LeO (bakelaw2_FluxMoves.j0 k y0 y1 y2 y3 y4 y5 y6 y7 y8 y9 y10 y11 y12 y13) (bakelaw2_FluxMoves.j0 (k + 1) y0 y1 y2 y3 y4 y5 y6 y7 y8 y9 y10 y11 y12 y13)) ∧ (∀ y0 y1 y2 y3 y4 y5 y6 y7 y8 y9 y10, LeO (bakelaw2_FluxMoves.j2 k y0 y1 y2 y3 y4 y5 y6 y7 y8 y9 y10) (bakelaw2_FluxMoves.j2 (k + 1) y0 y1 y2 y3 y4 y5 y6 y7 y8 y9 y10)) ∧ (∀ y0 y1 y2 y3 y4 y5 y6 y7 y8 y9 y10 y11, LeO (bakelaw2_FluxMoves.j3 k y0 y1 y2 y3 y4 y5 y6 y7 y8 y9 y10 y11) (bakelaw2_FluxMoves.j3 (k + 1) y0 y1 y2 y3 y4 y5 y6 y7 y8 y9 y10 y11)) ∧ (∀ y0 y1 y2 y3 y4 y5 y6 y7 y8 y9 y10, LeO (bakelaw2_FluxMoves.l1 k y0 y1 y2 y3 y4 y5 y6 y7 y8 y9 y10) (bakelaw2_FluxMoves.l1 (k + 1) y0 y1 y2 y3 y4 y5 y6 y7 y8 y9 y10)) ∧ (∀ y0 y1 y2 y3 y4 y5 y6 y7 y8 y9 y10 y11 y12 y13, LeO (bakelaw2_FluxMoves.l0 k y0 y1 y2 y3 y4 y5 y6 y7 y8 y9 y10 y11 y12 y13) (bakelaw2_FluxMoves.l0 (k + 1) y0 y1 y2 y3 y4 y5 y6 y7 y8 y9 y10 y11 y12 y13))
  | 0 => ⟨fun _ _ _ _ _ _ _ _ _ _ _ _ _ _ r h => by simp [bakelaw2_FluxMoves.j0] at h, fun _ _ _ _ _ _ _ _ _ _ _ r h => by simp [bakelaw2_FluxMoves.j2] at h, fun _ _ _ _ _ _ _ _ _ _ _ _ r h => by simp [bakelaw2_FluxMoves.j3] at h, fun _ _ _ _ _ _ _ _ _ _ _ r h => by simp [bakelaw2_FluxMoves.l1] at h, fun _ _ _ _ _ _ _ _ _ _ _ _ _ _ r h => by simp [bakelaw2_FluxMoves.l0] at h⟩
  | k + 1 => by
    obtain ⟨ih0, ih1, ih2, ih3, ih4⟩ := bakelaw2_FluxMoves.mono_l k
    refine ⟨?_, ?_, ?_, ?_, ?_⟩
    · intro y0 y1 y2 y3 y4 y5 y6 y7 y8 y9 y10 y11 y12 y13
      unfold bakelaw2_FluxMoves.j0
      repeat' first
      | (with_reducible exact ih0 _ _ _ _ _ _ _ _ _ _ _ _ _ _)
      | (with_reducible exact ih1 _ _ _ _ _ _ _ _ _ _ _)
      | (with_reducible exact ih2 _ _ _ _ _ _ _ _ _ _ _ _)
      | (with_reducible exact ih3 _ _ _ _ _ _ _ _ _ _ _)
      | (with_reducible exact ih4 _ _ _ _ _ _ _ _ _ _ _ _ _ _)
      | (with_reducible exact bakelaw2_fluxBegun.mono _)
      | (with_reducible exact bakeref2_Between.mono _ _)
      | (with_reducible exact bakeref2_Times.mono _ _)
      | (with_reducible exact bakeref2_TrackErr.mono _ _)
      | (with_reducible exact flux_Shake.mono _ _ _ _)
      | (with_reducible exact flux_Speed.mono _ _ _ _)
      | (with_reducible exact slices_Equal_api_Track_int.mono _ _ _)
      | (with_reducible exact LeO.refl _)
      | (with_reducible exact LeO.none _)
      | (with_reducible refine LeO.ite ?_ ?_)
      | (with_reducible refine LeO.bind ?_ (fun _ => ?_))
      | exact ih0 _ _ _ _ _ _ _ _ _ _ _ _ _ _
      | exact ih1 _ _ _ _ _ _ _ _ _ _ _
      | exact ih2 _ _ _ _ _ _ _ _ _ _ _ _
      | exact ih3 _ _ _ _ _ _ _ _ _ _ _
      | exact ih4 _ _ _ _ _ _ _ _ _ _ _ _ _ _
      | exact bakelaw2_fluxBegun.mono _
      | exact bakeref2_Between.mono _ _
      | exact bakeref2_Times.mono _ _
      | exact bakeref2_TrackErr.mono _ _
      | exact flux_Shake.mono _ _ _ _
      | exact flux_Speed.mono _ _ _ _
      | exact slices_Equal_api_Track_int.mono _ _ _
      | exact LeO.none _
      | refine LeO.ite ?_ ?_
      | refine LeO.bind ?_ (fun _ => ?_)
    · intro y0 y1 y2 y3 y4 y5 y6 y7 y8 y9 y10
      unfold bakelaw2_FluxMoves.j2
      repeat' first
      | (with_reducible exact ih0 _ _ _ _ _ _ _ _ _ _ _ _ _ _)
      | (with_reducible exact ih1 _ _ _ _ _ _ _ _ _ _ _)
      | (with_reducible exact ih2 _ _ _ _ _ _ _ _ _ _ _ _)
      | (with_reducible exact ih3 _ _ _ _ _ _ _ _ _ _ _)
      | (with_reducible exact ih4 _ _ _ _ _ _ _ _ _ _ _ _ _ _)
      | (with_reducible exact bakelaw2_fluxBegun.mono _)
      | (with_reducible exact bakeref2_Between.mono _ _)
      | (with_reducible exact bakeref2_Times.mono _ _)
      | (with_reducible exact bakeref2_TrackErr.mono _ _)
      | (with_reducible exact flux_Shake.mono _ _ _ _)
      | (with_reducible exact flux_Speed.mono _ _ _ _)
      | (with_reducible exact slices_Equal_api_Track_int.mono _ _ _)
      | (with_reducible exact LeO.refl _)
      | (with_reducible exact LeO.none _)
      | (with_reducible refine LeO.ite ?_ ?_)
      | (with_reducible refine LeO.bind ?_ (fun _ => ?_))
      | exact ih0 _ _ _ _ _ _ _ _ _ _ _ _ _ _
      | exact ih1 _ _ _ _ _ _ _ _ _ _ _
      | exact ih2 _ _ _ _ _ _ _ _ _ _ _ _
      | exact ih3 _ _ _ _ _ _ _ _ _ _ _
      | exact ih4 _ _ _ _ _ _ _ _ _ _ _ _ _ _
      | exact bakelaw2_fluxBegun.mono _
      | exact bakeref2_Between.mono _ _
      | exact bakeref2_Times.mono _ _
      | exact bakeref2_TrackErr.mono _ _
      | exact flux_Shake.mono _ _ _ _
      | exact flux_Speed.mono _ _ _ _
      | exact slices_Equal_api_Track_int.mono _ _ _
      | exact LeO.none _
      | refine LeO.ite ?_ ?_
      | refine LeO.bind ?_ (fun _ => ?_)
    · intro y0 y1 y2 y3 y4 y5 y6 y7 y8 y9 y10 y11
      unfold bakelaw2_FluxMoves.j3
      repeat' first
      | (with_reducible exact ih0 _ _ _ _ _ _ _ _ _ _ _ _ _ _)
      | (with_reducible exact ih1 _ _ _ _ _ _ _ _ _ _ _)
      | (with_reducible exact ih2 _ _ _ _ _ _ _ _ _ _ _ _)
      | (with_reducible exact ih3 _ _ _ _ _ _ _ _ _ _ _)
      | (with_reducible exact ih4 _ _ _ _ _ _ _ _ _ _ _ _ _ _)
      | (with_reducible exact bakelaw2_fluxBegun.mono _)
      | (with_reducible exact bakeref2_Between.mono _ _)
      | (with_reducible exact bakeref2_Times.mono _ _)
      | (with_reducible exact bakeref2_TrackErr.mono _ _)
      | (with_reducible exact flux_Shake.mono _ _ _ _)
      | (with_reducible exact flux_Speed.mono _ _ _ _)
      | (with_reducible exact slices_Equal_api_Track_int.mono _ _ _)
      | (with_reducible exact LeO.refl _)
      | (with_reducible exact LeO.none _)
      | (with_reducible refine LeO.ite ?_ ?_)
      | (with_reducible refine LeO.bind ?_ (fun _ => ?_))
      | exact ih0 _ _ _ _ _ _ _ _ _ _ _ _ _ _
      | exact ih1 _ _ _ _ _ _ _ _ _ _ _
      | exact ih2 _ _ _ _ _ _ _ _ _ _ _ _
      | exact ih3 _ _ _ _ _ _ _ _ _ _ _
      | exact ih4 _ _ _ _ _ _ _ _ _ _ _ _ _ _
      | exact bakelaw2_fluxBegun.mono _
      | exact bakeref2_Between.mono _ _
      | exact bakeref2_Times.mono _ _
      | exact bakeref2_TrackErr.mono _ _
      | exact flux_Shake.mono _ _ _ _
      | exact flux_Speed.mono _ _ _ _
      | exact slices_Equal_api_Track_int.mono _ _ _
      | exact LeO.none _
      | refine LeO.ite ?_ ?_
      | refine LeO.bind ?_ (fun _ => ?_)
    · intro y0 y1 y2 y3 y4 y5 y6 y7 y8 y9 y10
      unfold bakelaw2_FluxMoves.l1
      repeat' first
      | (with_reducible exact ih0 _ _ _ _ _ _ _ _ _ _ _ _ _ _)
      | (with_reducible exact ih1 _ _ _ _ _ _ _ _ _ _ _)
      | (with_reducible exact ih2 _ _ _ _ _ _ _ _ _ _ _ _)
      | (with_reducible exact ih3 _ _ _ _ _ _ _ _ _ _ _)
      | (with_reducible exact ih4 _ _ _ _ _ _ _ _ _ _ _ _ _ _)
      | (with_reducible exact bakelaw2_fluxBegun.mono _)
      | (with_reducible exact bakeref2_Between.mono _ _)
      | (with_reducible exact bakeref2_Times.mono _ _)
      | (with_reducible exact bakeref2_TrackErr.mono _ _)
      | (with_reducible exact flux_Shake.mono _ _ _ _)
      | (with_reducible exact flux_Speed.mono _ _ _ _)
      | (with_reducible exact slices_Equal_api_Track_int.mono _ _ _)
      | (with_reducible exact LeO.refl _)
      | (with_reducible exact LeO.none _)
      | (with_reducible refine LeO.ite ?_ ?_)
      | (with_reducible refine LeO.bind ?_ (fun _ => ?_))
      | exact ih0 _ _ _ _ _ _ _ _ _ _ _ _ _ _
      | exact ih1 _ _ _ _ _ _ _ _ _ _ _
      | exact ih2 _ _ _ _ _ _ _ _ _ _ _ _
      | exact ih3 _ _ _ _ _ _ _ _ _ _ _
      | exact ih4 _ _ _ _ _ _ _ _ _ _ _ _ _ _
      | exact bakelaw2_fluxBegun.mono _
      | exact bakeref2_Between.mono _ _
      | exact bakeref2_Times.mono _ _
      | exact bakeref2_TrackErr.mono _ _
      | exact flux_Shake.mono _ _ _ _
      | exact flux_Speed.mono _ _ _ _
      | exact slices_Equal_api_Track_int.mono _ _ _
      | exact LeO.none _
      | refine LeO.ite ?_ ?_
      | refine LeO.bind ?_ (fun _ => ?_)
    · intro y0 y1 y2 y3 y4 y5 y6 y7 y8 y9 y10 y11 y12 y13
      unfold bakelaw2_FluxMoves.l0
      repeat' first
      | (with_reducible exact ih0 _ _ _ _ _ _ _ _ _ _ _ _ _ _)
      | (with_reducible exact ih1 _ _ _ _ _ _ _ _ _ _ _)
      | (with_reducible exact ih2 _ _ _ _ _ _ _ _ _ _ _ _)
      | (with_reducible exact ih3 _ _ _ _ _ _ _ _ _ _ _)
      | (with_reducible exact ih4 _ _ _ _ _ _ _ _ _ _ _ _ _ _)
      | (with_reducible exact bakelaw2_fluxBegun.mono _)
      | (with_reducible exact bakeref2_Between.mono _ _)
      | (with_reducible exact bakeref2_Times.mono _ _)
      | (with_reducible exact bakeref2_TrackErr.mono _ _)
      | (with_reducible exact flux_Shake.mono _ _ _ _)
      | (with_reducible exact flux_Speed.mono _ _ _ _)
      | (with_reducible exact slices_Equal_api_Track_int.mono _ _ _)
      | (with_reducible exact LeO.refl _)
      | (with_reducible exact LeO.none _)
      | (with_reducible refine LeO.ite ?_ ?_)
      | (with_reducible refine LeO.bind ?_ (fun _ => ?_))
      | exact ih0 _ _ _ _ _ _ _ _ _ _ _ _ _ _
      | exact ih1 _ _ _ _ _ _ _ _ _ _ _
      | exact ih2 _ _ _ _ _ _ _ _ _ _ _ _
      | exact ih3 _ _ _ _ _ _ _ _ _ _ _
      | exact ih4 _ _ _ _ _ _ _ _ _ _ _ _ _ _
      | exact bakelaw2_fluxBegun.mono _
      | exact bakeref2_Between.mono _ _
      | exact bakeref2_Times.mono _ _
      | exact bakeref2_TrackErr.mono _ _
      | exact flux_Shake.mono _ _ _ _
      | exact flux_Speed.mono _ _ _ _
      | exact slices_Equal_api_Track_int.mono _ _ _
      | exact LeO.none _
      | refine LeO.ite ?_ ?_
      | refine LeO.bind ?_ (fun _ => ?_)
theorem bakelaw2_FluxMoves.mono : ∀ a0 a1 a2 a3 a4 k, LeO (bakelaw2_FluxMoves.f k a0 a1 a2 a3 a4) (bakelaw2_FluxMoves.f (k + 1) a0 a1 a2 a3 a4) := by
  intro a0 a1 a2 a3 a4 k
  obtain ⟨ih0, ih1, ih2, ih3, ih4⟩ := bakelaw2_FluxMoves.mono_l k
  unfold bakelaw2_FluxMoves.f
  repeat' first
      | (with_reducible exact ih0 _ _ _ _ _ _ _ _ _ _ _ _ _ _)
      | (with_reducible exact ih1 _ _ _ _ _ _ _ _ _ _ _)
      | (with_reducible exact ih2 _ _ _ _ _ _ _ _ _ _ _ _)
      | (with_reducible exact ih3 _ _ _ _ _ _ _ _ _ _ _)
      | (with_reducible exact ih4 _ _ _ _ _ _ _ _ _ _ _ _ _ _)
      | (with_reducible exact bakelaw2_fluxBegun.mono _)
      | (with_reducible exact bakeref2_Between.mono _ _)
      | (with_reducible exact bakeref2_Times.mono _ _)
      | (with_reducible exact bakeref2_TrackErr.mono _ _)
      | (with_reducible exact flux_Shake.mono _ _ _ _)
      | (with_reducible exact flux_Speed.mono _ _ _ _)
      | (with_reducible exact slices_Equal_api_Track_int.mono _ _ _)
      | (with_reducible exact LeO.refl _)
      | (with_reducible exact LeO.none _)
      | (with_reducible refine LeO.ite ?_ ?_)
      | (with_reducible refine LeO.bind ?_ (fun _ => ?_))
      | exact ih0 _ _ _ _ _ _ _ _ _ _ _ _ _ _
      | exact ih1 _ _ _ _ _ _ _ _ _ _ _
      | exact ih2 _ _ _ _ _ _ _ _ _ _ _ _
      | exact ih3 _ _ _ _ _ _ _ _ _ _ _
      | exact ih4 _ _ _ _ _ _ _ _ _ _ _ _ _ _
      | exact bakelaw2_fluxBegun.mono _
      | exact bakeref2_Between.mono _ _
      | exact bakeref2_Times.mono _ _
      | exact bakeref2_TrackErr.mono _ _
      | exact flux_Shake.mono _ _ _ _
      | exact flux_Speed.mono _ _ _ _
      | exact slices_Equal_api_Track_int.mono _ _ _
      | exact LeO.none _
      | refine LeO.ite ?_ ?_
      | refine LeO.bind ?_ (fun _ => ?_)
def bakelaw2_FluxMoves.T15 : Bool × List (List Nat × List Nat) := (true, [([], []), ([], []), ([], []), ([], []), ([2, 3], [2, 3]), ([4], [4]), ([], []), ([5, 6], [5, 6]), ([], []), ([], []), ([8, 9], [8, 9]), ([10], [10]), ([], []), ([11, 12], [11, 12]), ([], []), ([13, 14], [13, 14]), ([7, 15], [7, 15]), ([], []), ([16, 17], [16, 17]), ([0, 1, 0, 1, 2, 3, 4, 5, 6, 7, 8, 9, 10, 11, 12, 13, 14, 15, 16, 17, 18], [0, 1]), ([19, 18, 0, 1, 2, 3, 4, 5, 6, 7, 8, 9, 10, 11, 12, 13, 14, 15, 16, 17, 18], [18, 19])])
def bakelaw2_FluxMoves.B15 : List Nat := [0, 0, 0, 0, 12, 28, 0, 124, 0, 0, 768, 1792, 0, 7936, 0, 32512, 65532, 0, 262140, 524287, 1048575]
theorem bakelaw2_FluxMoves.tab15 : rtab .any (opsOf Try.f8 15) = bakelaw2_FluxMoves.T15 := by kernel_rfl
theorem bakelaw2_FluxMoves.bits15 : waitsOk bakelaw2_FluxMoves.T15.2 bakelaw2_FluxMoves.B15 = true := by kernel_rfl
def bakelaw2_FluxMoves.T24 : Bool × List (List Nat × List Nat) := (true, [([], []), ([], []), ([0, 1], [0, 1]), ([2], [2]), ([], []), ([], []), ([5], [5]), ([], []), ([], []), ([], []), ([9], [9]), ([8, 10], [8, 10]), ([7, 11], [7, 11]), ([12], [12]), ([6, 13], [6, 13]), ([4, 14], [4, 14]), ([3, 15], [3, 15]), ([0, 1, 0, 1, 2, 3, 4, 5, 6, 7, 8, 9, 10, 11, 12, 13, 14, 15, 16], [0, 1]), ([17, 16, 0, 1, 2, 3, 4, 5, 6, 7, 8, 9, 10, 11, 12, 13, 14, 15, 16], [16, 17])])
def bakelaw2_FluxMoves.B24 : List Nat := [0, 0, 3, 7, 0, 0, 32, 0, 0, 0, 512, 1792, 3968, 8064, 16352, 32752, 65535, 131071, 262143]
theorem bakelaw2_FluxMoves.tab24 : rtab .any (opsOf Try.f8 24) = bakelaw2_FluxMoves.T24 := by kernel_rfl
theorem bakelaw2_FluxMoves.bits24 : waitsOk bakelaw2_FluxMoves.T24.2 bakelaw2_FluxMoves.B24 = true := by kernel_rfl
set_option maxHeartbeats 8000000 in
set_option maxRecDepth 100000 in
theorem bakelaw2_FluxMoves.calls (k : Nat) (A0 : Option Addr) (c0 : Nat) (l0 : List Int) (a1 : Int) (a2 : Int) (A3 : Option Addr) (c3 : Nat) (l3 : List Int) (a4 : Int) (r : Bool) (w : World) (hr0 : Kd.C (Kd.int .i64) w A0 l0.length l0) (hc0 : l0.length ≤ c0) (hr3 : Kd.C (Kd.int .i64) w A3 l3.length l3) (hc3 : l3.length ≤ c3) (h : bakelaw2_FluxMoves.f k l0 a1 a2 l3 a4 = some r) :
    Calls Try.prog 8 #[.slice A0 l0.length c0, .int .i64 a1, .int .i64 a2, .slice A3 l3.length c3, .int .i64 a4] w fun e w' => e = .returned (.bool r) ∧ Below w.heap.size w w' := by
  have HR0 := Aside0.mk hr0
  have HC0 := Aside0.mk hc0
  clear hr0 hc0
  have HR3 := Aside0.mk hr3
  have HC3 := Aside0.mk hc3
  clear hr3 hc3
  have HB := Aside0.mk (Below.refl w.heap.size w)
  have H : ((bakelaw2_fluxBegun.f k).bind fun t167 => (if t167 = true then ((flux_Speed.f k l0 a1 a2).bind fun bt168 => ((flux_Shake.f k l0 l3 a4).bind fun bt172 => ((bakeref2_TrackErr.f k l0).bind fun t176 => (if t176 = 0 then (if (mn a1 a2) > 0 then (bakelaw2_FluxMoves.j0 k l0 a1 a2 l3 a4 bt168.1 bt168.2 bt172.1 bt172.2 ([] : List Int) ([] : List Int) 1 1 (decide ((mx a1 a2) ≤ 1000))) else (bakelaw2_FluxMoves.j0 k l0 a1 a2 l3 a4 bt168.1 bt168.2 bt172.1 bt172.2 ([] : List Int) ([] : List Int) 1 1 false)) else (if bt168.2 = t176 then (if bt172.2 = t176 then (some ((wrap64 ((bt168.1.length : Int) + (bt172.1.length : Int))) == 0)) else (some false)) else (some false)))))) else (some false))) = some r := h
  clear h
  replace H := Option.bind_eq_some_iff.mp H
  obtain ⟨t167, A60, H⟩ := H
  replace H : (if t167 = true then ((flux_Speed.f k l0 a1 a2).bind fun bt168 => ((flux_Shake.f k l0 l3 a4).bind fun bt172 => ((bakeref2_TrackErr.f k l0).bind fun t176 => (if t176 = 0 then (if (mn a1 a2) > 0 then (bakelaw2_FluxMoves.j0 k l0 a1 a2 l3 a4 bt168.1 bt168.2 bt172.1 bt172.2 ([] : List Int) ([] : List Int) 1 1 (decide ((mx a1 a2) ≤ 1000))) else (bakelaw2_FluxMoves.j0 k l0 a1 a2 l3 a4 bt168.1 bt168.2 bt172.1 bt172.2 ([] : List Int) ([] : List Int) 1 1 false)) else (if bt168.2 = t176 then (if bt172.2 = t176 then (some ((wrap64 ((bt168.1.length : Int) + (bt172.1.length : Int))) == 0)) else (some false)) else (some false)))))) else (some false)) = some r := H
  have A6 := Aside0.mk A60
  clear A60
  by_cases c7 : t167 = true
  · subst c7
    have H1 : ((flux_Speed.f k l0 a1 a2).bind fun bt168 => ((flux_Shake.f k l0 l3 a4).bind fun bt172 => ((bakeref2_TrackErr.f k l0).bind fun t176 => (if t176 = 0 then (if (mn a1 a2) > 0 then (bakelaw2_FluxMoves.j0 k l0 a1 a2 l3 a4 bt168.1 bt168.2 bt172.1 bt172.2 ([] : List Int) ([] : List Int) 1 1 (decide ((mx a1 a2) ≤ 1000))) else (bakelaw2_FluxMoves.j0 k l0 a1 a2 l3 a4 bt168.1 bt168.2 bt172.1 bt172.2 ([] : List Int) ([] : List Int) 1 1 false)) else (if bt168.2 = t176 then (if bt172.2 = t176 then (some ((wrap64 ((bt168.1.length : Int) + (bt172.1.length : Int))) == 0)) else (some false)) else (some false)))))) = some r := by rw [if_pos rfl] at H; exact H
    clear H
    have H := H1
    clear H1
    replace H := Option.bind_eq_some_iff.mp H
    obtain ⟨⟨t168, t169⟩, A80, H⟩ := H
    replace H : ((flux_Shake.f k l0 l3 a4).bind fun bt172 => ((bakeref2_TrackErr.f k l0).bind fun t176 => (if t176 = 0 then (if (mn a1 a2) > 0 then (bakelaw2_FluxMoves.j0 k l0 a1 a2 l3 a4 t168 t169 bt172.1 bt172.2 ([] : List Int) ([] : List Int) 1 1 (decide ((mx a1 a2) ≤ 1000))) else (bakelaw2_FluxMoves.j0 k l0 a1 a2 l3 a4 t168 t169 bt172.1 bt172.2 ([] : List Int) ([] : List Int) 1 1 false)) else (if t169 = t176 then (if bt172.2 = t176 then (some ((wrap64 ((t168.length : Int) + (bt172.1.length : Int))) == 0)) else (some false)) else (some false))))) = some r := H
    have A8 := Aside0.mk A80
    clear A80
    replace H := Option.bind_eq_some_iff.mp H
    obtain ⟨⟨t172, t173⟩, A90, H⟩ := H
    replace H : ((bakeref2_TrackErr.f k l0).bind fun t176 => (if t176 = 0 then (if (mn a1 a2) > 0 then (bakelaw2_FluxMoves.j0 k l0 a1 a2 l3 a4 t168 t169 t172 t173 ([] : List Int) ([] : List Int) 1 1 (decide ((mx a1 a2) ≤ 1000))) else (bakelaw2_FluxMoves.j0 k l0 a1 a2 l3 a4 t168 t169 t172 t173 ([] : List Int) ([] : List Int) 1 1 false)) else (if t169 = t176 then (if t173 = t176 then (some ((wrap64 ((t168.length : Int) + (t172.length : Int))) == 0)) else (some false)) else (some false)))) = some r := H
    have A9 := Aside0.mk A90
    clear A90
    replace H := Option.bind_eq_some_iff.mp H
    obtain ⟨t176, A100, H⟩ := H
    replace H : (if t176 = 0 then (if (mn a1 a2) > 0 then (bakelaw2_FluxMoves.j0 k l0 a1 a2 l3 a4 t168 t169 t172 t173 ([] : List Int) ([] : List Int) 1 1 (decide ((mx a1 a2) ≤ 1000))) else (bakelaw2_FluxMoves.j0 k l0 a1 a2 l3 a4 t168 t169 t172 t173 ([] : List Int) ([] : List Int) 1 1 false)) else (if t169 = t176 then (if t173 = t176 then (some ((wrap64 ((t168.length : Int) + (t172.length : Int))) == 0)) else (some false)) else (some false))) = some r := H
    have A10 := Aside0.mk A100
    clear A100
    by_cases c11 : t176 = 0
    · rw [if_pos c11] at H
      have c11b0 : (t176 == 0) = true := beq_iff_eq.mpr c11
      have c11b1 : (t176 != 0) = false := bne_eq_false_iff_eq.mpr c11
      clear c11
      have HC12 := Aside0.mk H
      clear H
      go_enter Try.func8, Try.ntmps8
      go_upto_region 10 with (first | ((with_reducible refine gate_callee (f := 30) rfl ?_); refine goesL_ (some 24) rfl rfl Try.func30 (by kernel_rfl) rfl #[] rfl (by (try simp only [List.map_toArray, List.map_cons, List.map_nil]); first | done | rfl | (simp only [List.length_drop, List.length_take]; rfl)) ?_; (with_reducible refine (bakelaw2_fluxBegun.calls k  true _ A6.out).mono ?_); rintro e w13 ⟨rfl, hb⟩; refine ⟨_, rfl, ?_⟩; have n0_ := Aside0.mk (below_step (by repeat (first | (with_reducible first | exact HB.out | apply below_alloc | apply pw_below_drewN | apply below_drew1) | exact HB.out)) hb); clear HB; have HB := n0_; clear n0_; (try clear hb); (try clear hb2); (try clear hk); (try clear hi)) | ((with_reducible refine gate_callee (f := 49) rfl ?_); refine goesL_ (some 30) rfl rfl Try.func49 (by kernel_rfl) rfl #[.slice A0 l0.length c0, .int .i64 a1, .int .i64 a2] rfl (by (try simp only [List.map_toArray, List.map_cons, List.map_nil]); first | done | rfl | (simp only [List.length_drop, List.length_take]; rfl)) ?_; (with_reducible refine (flux_Speed.calls k _ _ l0 a1 a2 t168 t169 _ ?side1 ?side2 A8.out).mono ?_); (case side1 => repeat (first | exact (Kd.C_below HR0.out HB.out) | (with_reducible refine Kd.C_alloc ?_ _) | (with_reducible refine Kd.C_drewN ?_ _) | (with_reducible refine Kd.C_drew ?_))); (case side2 => exact HC0.out); rintro e w14 ⟨v170, rfl, ho0, hb⟩; refine ⟨_, rfl, ?_⟩; have n0_ := Aside0.mk (Kd.R_lower ho0 (below_size (by repeat (first | (with_reducible first | exact HB.out | apply below_alloc | apply pw_below_drewN | apply below_drew1) | exact HB.out)))); have n1_ := Aside0.mk (below_step (by repeat (first | (with_reducible first | exact HB.out | apply below_alloc | apply pw_below_drewN | apply below_drew1) | exact HB.out)) hb); clear HB; have HO171 := n0_; have HB := n1_; clear n0_ n1_; (try clear hb); (try clear hb2); (try clear hk); (try clear hi); (try clear ho0)) | ((with_reducible refine gate_callee (f := 50) rfl ?_); refine goesL_ (some 37) rfl rfl Try.func50 (by kernel_rfl) rfl #[.slice A0 l0.length c0, .slice A3 l3.length c3, .int .i64 a4] rfl (by (try simp only [List.map_toArray, List.map_cons, List.map_nil]); first | done | rfl | (simp only [List.length_drop, List.length_take]; rfl)) ?_; (with_reducible refine (flux_Shake.calls k _ _ l0 _ _ l3 a4 t172 t173 _ ?side1 ?side2 ?side3 ?side4 A9.out).mono ?_); (case side1 => repeat (first | exact (Kd.C_below HR0.out HB.out) | (with_reducible refine Kd.C_alloc ?_ _) | (with_reducible refine Kd.C_drewN ?_ _) | (with_reducible refine Kd.C_drew ?_))); (case side2 => exact HC0.out); (case side3 => repeat (first | exact (Kd.C_below HR3.out HB.out) | (with_reducible refine Kd.C_alloc ?_ _) | (with_reducible refine Kd.C_drewN ?_ _) | (with_reducible refine Kd.C_drew ?_))); (case side4 => exact HC3.out); rintro e w15 ⟨v174, rfl, ho0, hb⟩; refine ⟨_, rfl, ?_⟩; have n0_ := Aside0.mk (Kd.R_elder' (by (with_reducible repeat (first | apply Kd.R_alloc | apply Kd.R_drewN | apply Kd.R_drew)); exact HO171.out) (Kd.R_base ho0) hb); have n1_ := Aside0.mk (Kd.R_lower (Kd.R_new' ho0 (Kd.R_lt (by (with_reducible repeat (first | apply Kd.R_alloc | apply Kd.R_drewN | apply Kd.R_drew)); exact HO171.out))) (below_size (by repeat (first | (with_reducible first | exact HB.out | apply below_alloc | apply pw_below_drewN | apply below_drew1) | exact HB.out)))); have n2_ := Aside0.mk (below_step (by repeat (first | (with_reducible first | exact HB.out | apply below_alloc | apply pw_below_drewN | apply below_drew1) | exact HB.out)) hb); clear HO171; clear HB; have HO171 := n0_; have HO175 := n1_; have HB := n2_; clear n0_ n1_ n2_; (try clear hb); (try clear hb2); (try clear hk); (try clear hi); (try clear ho0)) | ((with_reducible refine gate_callee (f := 32) rfl ?_); refine goesL_ (some 41) rfl rfl Try.func32 (by kernel_rfl) rfl #[.slice A0 l0.length c0] rfl (by (try simp only [List.map_toArray, List.map_cons, List.map_nil]); first | done | rfl | (simp only [List.length_drop, List.length_take]; rfl)) ?_; (with_reducible refine (bakeref2_TrackErr.calls k _ _ l0 t176 _ ?side1 ?side2 A10.out).mono ?_); (case side1 => repeat (first | exact (Kd.C_below HR0.out HB.out) | (with_reducible refine Kd.C_alloc ?_ _) | (with_reducible refine Kd.C_drewN ?_ _) | (with_reducible refine Kd.C_drew ?_))); (case side2 => exact HC0.out); rintro e w' ⟨rfl, ⟨nd, rfl⟩⟩; refine ⟨_, rfl, ?_⟩))
      (try simp only [Act.put, List.setIfInBounds_toArray, List.set_cons_zero, List.set_cons_succ])
      go_cut [69] (fun v69 wc => ∃ (kq : Nat) (x69_11 : Bool), v69 = .bool x69_11 ∧ Aside0 (bakelaw2_FluxMoves.j0 kq l0 a1 a2 l3 a4 t168 t169 t172 t173 ([] : List Int) ([] : List Int) 1 1 x69_11 = some r) ∧ Aside0 (kq ≤ k) ∧ Aside0 (Kd.R (Kd.int .i64) 3 wc w.heap.size (fun k_ => some k_ ≠ (v174 : Value).ownBlock ∧ some k_ ≠ ((.slice none 0 0) : Value).ownBlock ∧ some k_ ≠ ((.slice none 0 0) : Value).ownBlock) v170 t168) ∧ Aside0 (Kd.R (Kd.int .i64) 3 wc w.heap.size (fun k_ => some k_ ≠ (v170 : Value).ownBlock ∧ some k_ ≠ ((.slice none 0 0) : Value).ownBlock ∧ some k_ ≠ ((.slice none 0 0) : Value).ownBlock) v174 t172) ∧ Aside0 (Kd.R (Kd.int .i64) 3 wc w.heap.size (fun k_ => some k_ ≠ (v170 : Value).ownBlock ∧ some k_ ≠ (v174 : Value).ownBlock) (.slice none 0 0) ([] : List Int)) ∧ Aside0 (Kd.R (Kd.int .i64) 3 wc w.heap.size (fun k_ => some k_ ≠ (v170 : Value).ownBlock ∧ some k_ ≠ (v174 : Value).ownBlock) (.slice none 0 0) ([] : List Int)) ∧ Aside0 (Below w.heap.size w wc))
      case first =>
        have H := HC12.out
        clear HC12
        obtain ⟨ji16, hji16⟩ : ∃ j_ : Int, (mn a1 a2) = j_ := ⟨_, rfl⟩
        replace H : (if (ji16) > 0 then (bakelaw2_FluxMoves.j0 k l0 a1 a2 l3 a4 t168 t169 t172 t173 ([] : List Int) ([] : List Int) 1 1 (decide ((mx a1 a2) ≤ 1000))) else (bakelaw2_FluxMoves.j0 k l0 a1 a2 l3 a4 t168 t169 t172 t173 ([] : List Int) ([] : List Int) 1 1 false)) = some r := by first | (rw [hji16] at H; exact H) | (simp only [hji16] at H ⊢; exact H)
        have hji16_ : (if a2 < a1 then a2 else a1) = ji16 := hji16
        by_cases c17 : (ji16) > 0
        · rw [if_pos c17] at H
          have c17b0 : decide (0 < (ji16)) = true := decide_eq_true c17
          clear c17
          (first | rw [c17b0] | (simp only [i64_w, i32_w]; rw [c17b0]) | skip)
          obtain ⟨ji18, hji18⟩ : ∃ j_ : Int, (mx a1 a2) = j_ := ⟨_, rfl⟩
          replace H : (bakelaw2_FluxMoves.j0 k l0 a1 a2 l3 a4 t168 t169 t172 t173 ([] : List Int) ([] : List Int) 1 1 (decide ((ji18) ≤ 1000))) = some r := by first | (rw [hji18] at H; exact H) | (simp only [hji18] at H ⊢; exact H)
          have hji18_ : (if a1 < a2 then a2 else a1) = ji18 := hji18
          have H' := Aside0.mk H
          clear H
          go_wp2
          go_meet
          case rel => exact ⟨_, (decide ((ji18) ≤ 1000)), (by first | rfl | (simp; done) | (simp only [← hji18] <;> (first | rfl | simp)) | (simp [*]; done)), H', ⟨by first | omega | exact Nat.le_refl _⟩, ⟨by (with_reducible repeat (first | apply Kd.R_alloc | apply Kd.R_drewN | apply Kd.R_drew)); exact Kd.R_mono HO171.out (fun _ hk => ⟨hk.2, ⟨(by simp [Value.ownBlock]), (by simp [Value.ownBlock])⟩⟩)⟩, ⟨by (with_reducible repeat (first | apply Kd.R_alloc | apply Kd.R_drewN | apply Kd.R_drew)); exact Kd.R_mono HO175.out (fun _ hk => ⟨hk.2, ⟨(by simp [Value.ownBlock]), (by simp [Value.ownBlock])⟩⟩)⟩, ⟨by first | exact Kd.R_nil _ _ _ _ _ | exact Kd.N_nil _ _ _ _ _ | exact Kd.V_nil _ _ _ _ _ | exact Kd.Q_nil _ _ _ _ _ | exact Kd.S_nil _ _ _ _ _⟩, ⟨by first | exact Kd.R_nil _ _ _ _ _ | exact Kd.N_nil _ _ _ _ _ | exact Kd.V_nil _ _ _ _ _ | exact Kd.Q_nil _ _ _ _ _ | exact Kd.S_nil _ _ _ _ _⟩, ⟨by repeat (first | (with_reducible first | exact HB.out | apply below_alloc | apply pw_below_drewN | apply below_drew1) | exact HB.out)⟩⟩
        · rw [if_neg c17] at H
          have c17b0 : decide (0 < (ji16)) = false := decide_eq_false c17
          clear c17
          (first | rw [c17b0] | (simp only [i64_w, i32_w]; rw [c17b0]) | skip)
          have H' := Aside0.mk H
          clear H
          go_wp2
          go_meet
          case rel => exact ⟨_, (false), (by first | rfl | (simp; done) | (simp [*]; done)), H', ⟨by first | omega | exact Nat.le_refl _⟩, ⟨by (with_reducible repeat (first | apply Kd.R_alloc | apply Kd.R_drewN | apply Kd.R_drew)); exact Kd.R_mono HO171.out (fun _ hk => ⟨hk.2, ⟨(by simp [Value.ownBlock]), (by simp [Value.ownBlock])⟩⟩)⟩, ⟨by (with_reducible repeat (first | apply Kd.R_alloc | apply Kd.R_drewN | apply Kd.R_drew)); exact Kd.R_mono HO175.out (fun _ hk => ⟨hk.2, ⟨(by simp [Value.ownBlock]), (by simp [Value.ownBlock])⟩⟩)⟩, ⟨by first | exact Kd.R_nil _ _ _ _ _ | exact Kd.N_nil _ _ _ _ _ | exact Kd.V_nil _ _ _ _ _ | exact Kd.Q_nil _ _ _ _ _ | exact Kd.S_nil _ _ _ _ _⟩, ⟨by first | exact Kd.R_nil _ _ _ _ _ | exact Kd.N_nil _ _ _ _ _ | exact Kd.V_nil _ _ _ _ _ | exact Kd.Q_nil _ _ _ _ _ | exact Kd.S_nil _ _ _ _ _⟩, ⟨by repeat (first | (with_reducible first | exact HB.out | apply below_alloc | apply pw_below_drewN | apply below_drew1) | exact HB.out)⟩⟩
      case rest =>
        clear HC12
        try clear c1
        try clear p2
        try clear c3
        try clear c4
        try clear c5
        try clear p6
        try clear c7
        try clear c8
        try clear c11
        try clear c11b0
        try clear c11b1
        try clear c17
        try clear c17b0
        obtain ⟨kq, x69_11, rfl, HA, HJ11, HO_11, HO_13, HO_16, HO_17, HB⟩ := hcut
        cases kq with
        | zero => exact absurd HA.out (by simp [bakelaw2_FluxMoves.j0])
        | succ kj11 =>
          have H := HA.out
          clear HA
          simp only [bakelaw2_FluxMoves.j0] at H
          have HC19 := Aside0.mk H
          clear H
          go_upto_if 69 with (fail)
          go_cut [16, 18] (fun v16 v18 wc => ∃ (kq : Nat) (x11_18 : List Int) (x13_18 : List Int) (x16_18 : List Int) (x17_18 : List Int) (x18_18 : Int), v18 = .int .i64 x18_18 ∧ Aside0 (bakelaw2_FluxMoves.j2 kq l0 l3 a4 x11_18 t169 x13_18 t173 x16_18 x17_18 x18_18 1 = some r) ∧ Aside0 (kq ≤ kj11) ∧ Aside0 (Kd.R (Kd.int .i64) 3 wc w.heap.size (fun k_ => some k_ ≠ (v174 : Value).ownBlock ∧ some k_ ≠ (v16 : Value).ownBlock ∧ some k_ ≠ ((.slice none 0 0) : Value).ownBlock) v170 x11_18) ∧ Aside0 (Kd.R (Kd.int .i64) 3 wc w.heap.size (fun k_ => some k_ ≠ (v170 : Value).ownBlock ∧ some k_ ≠ (v16 : Value).ownBlock ∧ some k_ ≠ ((.slice none 0 0) : Value).ownBlock) v174 x13_18) ∧ Aside0 (Kd.R (Kd.int .i64) 3 wc w.heap.size (fun k_ => some k_ ≠ (v170 : Value).ownBlock ∧ some k_ ≠ (v174 : Value).ownBlock) v16 x16_18) ∧ Aside0 (Kd.R (Kd.int .i64) 3 wc w.heap.size (fun k_ => some k_ ≠ (v170 : Value).ownBlock ∧ some k_ ≠ (v174 : Value).ownBlock) (.slice none 0 0) x17_18) ∧ Aside0 (Below w.heap.size w wc))
          case first =>
            have H := HC19.out
            clear HC19
            by_cases c20 : x69_11 = true
            · subst c20
              have H1 : ((bakeref2_Times.f kj11 l0).bind fun t177 => (bakelaw2_FluxMoves.l0 kj11 l0 a1 a2 l3 a4 t168 t169 t172 t173 ([] : List Int) 1 t177 (t177.length : Int) 0)) = some r := by rw [if_pos rfl] at H; exact H
              clear H
              have H := H1
              clear H1
              replace H := Option.bind_eq_some_iff.mp H
              obtain ⟨t177, A210, H⟩ := H
              replace H : (bakelaw2_FluxMoves.l0 kj11 l0 a1 a2 l3 a4 t168 t169 t172 t173 ([] : List Int) 1 t177 (t177.length : Int) 0) = some r := H
              have A21 := Aside0.mk A210
              clear A210
              have H' := Aside0.mk H
              clear H
              go_wp2_with (first | ((with_reducible refine gate_callee (f := 36) rfl ?_); refine goesL_ (some 71) rfl rfl Try.func36 (by kernel_rfl) rfl #[.slice A0 l0.length c0] rfl (by (try simp only [List.map_toArray, List.map_cons, List.map_nil]); first | done | rfl | (simp only [List.length_drop, List.length_take]; rfl)) ?_; (with_reducible refine (bakeref2_Times.calls kj11 _ _ l0 t177 _ ?side1 ?side2 A21.out).mono ?_); (case side1 => repeat (first | exact (Kd.C_below HR0.out HB.out) | (with_reducible refine Kd.C_alloc ?_ _) | (with_reducible refine Kd.C_drewN ?_ _) | (with_reducible refine Kd.C_drew ?_))); (case side2 => exact HC0.out); rintro e w22 ⟨v178, rfl, ho0, hb⟩; refine ⟨_, rfl, ?_⟩; have n0_ := Aside0.mk (Kd.R_elder' (by (with_reducible repeat (first | apply Kd.R_alloc | apply Kd.R_drewN | apply Kd.R_drew)); exact HO_11.out) (Kd.R_base ho0) hb); have n1_ := Aside0.mk (Kd.R_elder' (by (with_reducible repeat (first | apply Kd.R_alloc | apply Kd.R_drewN | apply Kd.R_drew)); exact HO_13.out) (Kd.R_base ho0) hb); have n2_ := Aside0.mk (Kd.R_elder' (by (with_reducible repeat (first | apply Kd.R_alloc | apply Kd.R_drewN | apply Kd.R_drew)); exact HO_16.out) (Kd.R_base ho0) hb); have n3_ := Aside0.mk (Kd.R_elder' (by (with_reducible repeat (first | apply Kd.R_alloc | apply Kd.R_drewN | apply Kd.R_drew)); exact HO_17.out) (Kd.R_base ho0) hb); have n4_ := Aside0.mk (Kd.R_lower (Kd.R_new' (Kd.R_new' (Kd.R_new' (Kd.R_new' ho0 (Kd.R_lt (by (with_reducible repeat (first | apply Kd.R_alloc | apply Kd.R_drewN | apply Kd.R_drew)); exact HO_11.out))) (Kd.R_lt (by (with_reducible repeat (first | apply Kd.R_alloc | apply Kd.R_drewN | apply Kd.R_drew)); exact HO_13.out))) (Kd.R_lt (by (with_reducible repeat (first | apply Kd.R_alloc | apply Kd.R_drewN | apply Kd.R_drew)); exact HO_16.out))) (Kd.R_lt (by (with_reducible repeat (first | apply Kd.R_alloc | apply Kd.R_drewN | apply Kd.R_drew)); exact HO_17.out))) (below_size (by repeat (first | (with_reducible first | exact HB.out | apply below_alloc | apply pw_below_drewN | apply below_drew1) | exact HB.out)))); have n5_ := Aside0.mk (below_step (by repeat (first | (with_reducible first | exact HB.out | apply below_alloc | apply pw_below_drewN | apply below_drew1) | exact HB.out)) hb); clear HO_11; clear HO_13; clear HO_16; clear HO_17; clear HB; have HO_11 := n0_; have HO_13 := n1_; have HO_16 := n2_; have HO_17 := n3_; have HO179 := n4_; have HB := n5_; clear n0_ n1_ n2_ n3_ n4_ n5_; (try clear hb); (try clear hb2); (try clear hk); (try clear hi); (try clear ho0); obtain ⟨Ao23, co23, eo23⟩ := Kd.R_slice HO179.out; subst eo23))
              go_loopg [74] kj11 (fun kq v74 w' => ∃ (x20_2 : List Int) (x74_2 : Int), v74 = .int .i64 x74_2 ∧ Aside0 (bakelaw2_FluxMoves.l0 kq l0 a1 a2 l3 a4 t168 t169 t172 t173 ([] : List Int) 1 x20_2 (t177.length : Int) x74_2 = some r) ∧ Aside0 (kq ≤ kj11) ∧ Aside0 (Kd.R (Kd.int .i64) 3 w' w.heap.size (fun k_ => some k_ ≠ (v174 : Value).ownBlock ∧ some k_ ≠ ((.slice none 0 0) : Value).ownBlock ∧ some k_ ≠ ((.slice Ao23 t177.length co23) : Value).ownBlock) v170 t168) ∧ Aside0 (Kd.R (Kd.int .i64) 3 w' w.heap.size (fun k_ => some k_ ≠ (v170 : Value).ownBlock ∧ some k_ ≠ ((.slice none 0 0) : Value).ownBlock ∧ some k_ ≠ ((.slice Ao23 t177.length co23) : Value).ownBlock) v174 t172) ∧ Aside0 (Kd.R (Kd.int .i64) 3 w' w.heap.size (fun k_ => some k_ ≠ (v170 : Value).ownBlock ∧ some k_ ≠ (v174 : Value).ownBlock ∧ some k_ ≠ ((.slice Ao23 t177.length co23) : Value).ownBlock) (.slice none 0 0) ([] : List Int)) ∧ Aside0 (Kd.R (Kd.int .i64) 3 w' w.heap.size (fun k_ => some k_ ≠ (v170 : Value).ownBlock ∧ some k_ ≠ (v174 : Value).ownBlock ∧ some k_ ≠ ((.slice none 0 0) : Value).ownBlock) (.slice Ao23 t177.length co23) x20_2) ∧ Aside0 (Below w.heap.size w w'))
              case atStart => exact ⟨(t177), (0), (by first | rfl | (simp; done) | (simp [*]; done)), H', ⟨Nat.le_refl _⟩, ⟨by (with_reducible repeat (first | apply Kd.R_alloc | apply Kd.R_drewN | apply Kd.R_drew)); exact Kd.R_mono HO_11.out (fun _ hk => ⟨hk.1.1, ⟨hk.1.2.2, hk.2⟩⟩)⟩, ⟨by (with_reducible repeat (first | apply Kd.R_alloc | apply Kd.R_drewN | apply Kd.R_drew)); exact Kd.R_mono HO_13.out (fun _ hk => ⟨hk.1.1, ⟨hk.1.2.2, hk.2⟩⟩)⟩, ⟨by (with_reducible repeat (first | apply Kd.R_alloc | apply Kd.R_drewN | apply Kd.R_drew)); exact Kd.R_mono HO_17.out (fun _ hk => ⟨hk.1.1, ⟨hk.1.2, hk.2⟩⟩)⟩, ⟨by (with_reducible repeat (first | apply Kd.R_alloc | apply Kd.R_drewN | apply Kd.R_drew)); exact Kd.R_mono HO179.out (fun _ hk => ⟨hk.1.1.1.2, ⟨hk.1.1.2, hk.2⟩⟩)⟩, ⟨by repeat (first | (with_reducible first | exact HB.out | apply below_alloc | apply pw_below_drewN | apply below_drew1) | exact HB.out)⟩⟩
              case round =>
                clear H'
                try clear c1
                try clear c2
                try clear p2
                try clear c3
                try clear c4
                try clear c5
                try clear p6
                try clear c7
                try clear c8
                try clear c11
                try clear c11b0
                try clear c11b1
                try clear c17
                try clear c17b0
                try clear c20
                try clear p2
                try clear p6
                obtain ⟨x20_2, x74_2, rfl, HA, HK2, HO_11, HO_13, HO_17, HO_20, HB⟩ := hrel
                have hl20_2 := (Kd.R_reads' HO_20.out).1
                rw [hl20_2] at HO_20
                (try simp only [hl20_2])
                (try simp only [hl20_2] at HO_11)
                (try simp only [hl20_2] at HO_13)
                (try simp only [hl20_2] at HO_17)
                cases gk with
                | zero => exact absurd HA.out (by simp [bakelaw2_FluxMoves.l0])
                | succ k2 =>
                  have H := HA.out
                  clear HA
                  simp only [bakelaw2_FluxMoves.l0] at H
                  by_cases c24 : x74_2 < (t177.length : Int)
                  · rw [if_pos c24] at H
                    have c24b0 : decide (x74_2 < (t177.length : Int)) = true := decide_eq_true c24
                    (try simp only [hl20_2] at c24b0)
                    (try simp only [hl22_4] at c24b0)
                    clear c24
                    (first | rw [c24b0] | (simp only [i64_w, i32_w]; rw [c24b0]) | skip)
                    by_cases c25 : 0 ≤ x74_2
                    · rw [if_pos c25] at H
                      have c25b0 : decide (0 ≤ x74_2) = true := decide_eq_true c25
                      clear c25
                      by_cases c26 : x74_2 < (x20_2.length : Int)
                      · rw [if_pos c26] at H
                        have c26b0 : decide (x74_2 < (x20_2.length : Int)) = true := decide_eq_true c26
                        (try simp only [hl20_2] at c26b0)
                        (try simp only [hl22_4] at c26b0)
                        clear c26
                        by_cases c27 : a2 = 0
                        · rw [if_pos c27] at H
                          exact absurd H (by simp)
                        · rw [if_neg c27] at H
                          have c27b0 : (a2 == 0) = false := beq_eq_false_iff_ne.mpr c27
                          have c27b1 : (a2 != 0) = true := bne_iff_ne.mpr c27
                          obtain ⟨y182, hy182⟩ : ∃ y_ : List Int, y_ = (x20_2.set (x74_2 : Int).toNat (wrap64 (Int.tdiv (wrap64 ((wrap64 ((rd x20_2 x74_2) * a1)) - (Int.tmod (wrap64 ((rd x20_2 x74_2) * a1)) a2))) a2))) := ⟨_, rfl⟩
                          replace H : (bakelaw2_FluxMoves.l0 k2 l0 a1 a2 l3 a4 t168 t169 t172 t173 ([] : List Int) 1 y182 (t177.length : Int) (wrap64 (x74_2 + 1))) = some r := by first | (rw [hy182]; with_reducible exact H) | (have H2_ := (Option.bind_some _ _).symm.trans H; rw [hy182]; with_reducible exact H2_) | (have H2_ := (Option.bind_some _ _).symm.trans H; with_reducible exact H2_) | with_reducible exact H | (rw [hy182]; exact H) | exact H
                          have Ny182 := Aside0.mk hy182
                          clear hy182
                          have H' := Aside0.mk H
                          clear H
                          try go_wp2
                          have n0_ := Aside0.mk (Kd.R_drew HO_11.out)
                          have n1_ := Aside0.mk (Kd.R_drew HO_13.out)
                          have n2_ := Aside0.mk (Kd.R_drew HO_17.out)
                          have n3_ := Aside0.mk (Kd.R_drew HO_20.out)
                          have n4_ := Aside0.mk (below_drew1 HB.out)
                          clear HO_11
                          clear HO_13
                          clear HO_17
                          clear HO_20
                          clear HB
                          have HO_11 := n0_
                          have HO_13 := n1_
                          have HO_17 := n2_
                          have HO_20 := n3_
                          have HB := n4_
                          clear n0_ n1_ n2_ n3_ n4_
                          have p180 : 0 ≤ (x74_2 : Int) := of_decide_eq_true (by first | (with_reducible assumption) | assumption)
                          have q180 : x74_2 < (x20_2.length : Int) := of_decide_eq_true (by first | (with_reducible assumption) | assumption)
                          obtain ⟨ad180, e180, hx180_0⟩ := Kd.at_int (Kd.R_reads' HO_20.out).2.2 x74_2 p180 q180
                          cases e180
                          replace p180 := eq_true p180
                          replace q180 := eq_true q180
                          have p181 : 0 ≤ (x74_2 : Int) := of_decide_eq_true (by first | (with_reducible assumption) | assumption)
                          have q181 : x74_2 < (x20_2.length : Int) := of_decide_eq_true (by first | (with_reducible assumption) | assumption)
                          obtain ⟨ad181, e181, hx181_0⟩ := Kd.at_int (Kd.R_reads' HO_20.out).2.2 x74_2 p181 q181
                          obtain rfl : ad180 = ad181 := (by injection e181)
                          replace p181 := eq_true p181
                          replace q181 := eq_true q181
                          have p28 : 0 ≤ (x74_2 : Int) := of_decide_eq_true (by first | (with_reducible assumption) | assumption)
                          have q28 : (x74_2 : Int) < ((x20_2.length : Int) : Int) := of_decide_eq_true (by first | (with_reducible assumption) | assumption)
                          obtain ⟨go28, co28, eo28, gb28, gl28, cl28, HG28⟩ := Kd.R_form HO_20.out (by omega)
                          (first | cases eo28 | (injection eo28 with ea_ en_ ec_; (first | subst ea_ | (injection ea_ with ea_; subst ea_)); subst ec_; clear en_))
                          have GB28 := Aside0.mk gb28
                          have GG28 := Aside0.mk HG28
                          clear gb28 gl28 HG28
                          (first | simp only [add_plain] at hx180_0 | skip)
                          (first | simp only [add_plain] at hx181_0 | skip)
                          obtain ⟨hx28_0, hf28_0⟩ := Kd.R_celln 0 HO_20.out (x74_2 : Int) p28 q28
                          replace p28 := eq_true p28
                          replace q28 := eq_true q28
                          have HP30 := Kd.R_putn HO_20.out (x74_2 : Int) (wrap64 (Int.tdiv (wrap64 ((wrap64 ((rd x20_2 x74_2) * a1)) - (Int.tmod (wrap64 ((rd x20_2 x74_2) * a1)) a2))) a2))
                          rw [← Ny182.out] at HP30
                          have HQ30 := Aside0.mk HP30
                          clear HP30
                          refine start_ (n := 21) (S := fun w' => w'.cell? ⟨go28, (x74_2).toNat, none⟩ = some (.int .i64 (rd x20_2 x74_2)) ∧ w'.cell? ⟨go28, (x74_2).toNat, none⟩ = some (.int .i64 (rd x20_2 x74_2))) (ds := [20]) #[false, false, false, false, false, false, false, false, false, false, false, false, false, false, false, false, false, false, false, false, false] (by kernel_rfl) rfl rfl ⟨hx180_0, hx181_0⟩ (fun hHeld => ?_); refine with_tabW bakelaw2_FluxMoves.tab15 bakelaw2_FluxMoves.bits15 (fun HT_ HW_ => ?_)
                          generalize wr.drew = w29 at HO_11 HO_13 HO_17 HO_20 HB GG28 HQ30 hf28_0 hx180_0 hx181_0 hx28_0 hHeld ⊢
                          refine pure_ (i := 0) (N := some 77) (v := ?_) (a' := ?_) #[true, false, false, false, false, false, false, false, false, false, false, false, false, false, false, false, false, false, false, false, false] rfl rfl (any_of HT_.out (by kernel_rfl)) (fun _ _ _ h => h) (Or.inl ⟨by rfl, ?_⟩) ?_ ?_
                          rotate_left
                          · intro w'
                            go_simp
                            with_reducible rfl
                          rotate_left
                          · simp only [Act.put, List.setIfInBounds_toArray, List.set_cons_zero, List.set_cons_succ, i64_w, i32_w]
                            rfl
                          refine pure_ (i := 1) (N := some 78) (v := ?_) (a' := ?_) #[true, true, false, false, false, false, false, false, false, false, false, false, false, false, false, false, false, false, false, false, false] rfl rfl (any_of HT_.out (by kernel_rfl)) (fun _ _ _ h => h) (Or.inl ⟨by rfl, ?_⟩) ?_ ?_
                          rotate_left
                          · intro w'
                            go_simp
                            with_reducible rfl
                          rotate_left
                          · simp only [Act.put, List.setIfInBounds_toArray, List.set_cons_zero, List.set_cons_succ, i64_w, i32_w]
                            rfl
                          refine pure_ (i := 2) (N := some 79) (v := ?_) (a' := ?_) #[true, true, true, false, false, false, false, false, false, false, false, false, false, false, false, false, false, false, false, false, false] rfl rfl (any_of HT_.out (by kernel_rfl)) (fun _ _ _ h => h) (Or.inl ⟨by rfl, ?_⟩) ?_ ?_
                          rotate_left
                          · intro w'
                            go_simp
                            with_reducible rfl
                          rotate_left
                          · simp only [Act.put, List.setIfInBounds_toArray, List.set_cons_zero, List.set_cons_succ, i64_w, i32_w]
                            rfl
                          refine pure_ (i := 3) (N := some 80) (v := ?_) (a' := ?_) #[true, true, true, true, false, false, false, false, false, false, false, false, false, false, false, false, false, false, false, false, false] rfl rfl (any_of HT_.out (by kernel_rfl)) (fun _ _ _ h => h) (Or.inl ⟨by rfl, ?_⟩) ?_ ?_
                          rotate_left
                          · intro w'
                            go_simp
                            with_reducible rfl
                          rotate_left
                          · simp only [Act.put, List.setIfInBounds_toArray, List.set_cons_zero, List.set_cons_succ, i64_w, i32_w]
                            rfl
                          refine pure_ (i := 4) (N := some 81) (v := ?_) (a' := ?_) #[true, true, true, true, true, false, false, false, false, false, false, false, false, false, false, false, false, false, false, false, false] rfl rfl (any_of HT_.out (by kernel_rfl)) (fun _ _ _ h => h) (Or.inl ⟨by rfl, ?_⟩) ?_ ?_
                          rotate_left
                          · intro w'
                            go_simp
                            with_reducible rfl
                          rotate_left
                          · simp only [Act.put, List.setIfInBounds_toArray, List.set_cons_zero, List.set_cons_succ, i64_w, i32_w]
                            rfl
                          refine pure_ (i := 6) (N := some 83) (v := ?_) (a' := ?_) #[true, true, true, true, true, false, true, false, false, false, false, false, false, false, false, false, false, false, false, false, false] rfl rfl (any_of HT_.out (by kernel_rfl)) (fun _ _ _ h => h) (Or.inl ⟨by rfl, ?_⟩) ?_ ?_
                          rotate_left
                          · intro w'
                            go_simp
                            with_reducible rfl
                          rotate_left
                          · simp only [Act.put, List.setIfInBounds_toArray, List.set_cons_zero, List.set_cons_succ, i64_w, i32_w]
                            rfl
                          refine pure_ (i := 8) (N := some 85) (v := ?_) (a' := ?_) #[true, true, true, true, true, false, true, false, true, false, false, false, false, false, false, false, false, false, false, false, false] rfl rfl (any_of HT_.out (by kernel_rfl)) (fun _ _ _ h => h) (Or.inl ⟨by rfl, ?_⟩) ?_ ?_
                          rotate_left
                          · intro w'
                            go_simp
                            with_reducible rfl
                          rotate_left
                          · simp only [Act.put, List.setIfInBounds_toArray, List.set_cons_zero, List.set_cons_succ, i64_w, i32_w]
                            rfl
                          refine pure_ (i := 9) (N := some 86) (v := ?_) (a' := ?_) #[true, true, true, true, true, false, true, false, true, true, false, false, false, false, false, false, false, false, false, false, false] rfl rfl (any_of HT_.out (by kernel_rfl)) (fun _ _ _ h => h) (Or.inl ⟨by rfl, ?_⟩) ?_ ?_
                          rotate_left
                          · intro w'
                            go_simp
                            with_reducible rfl
                          rotate_left
                          · simp only [Act.put, List.setIfInBounds_toArray, List.set_cons_zero, List.set_cons_succ, i64_w, i32_w]
                            rfl
                          refine pure_ (i := 10) (N := some 87) (v := ?_) (a' := ?_) #[true, true, true, true, true, false, true, false, true, true, true, false, false, false, false, false, false, false, false, false, false] rfl rfl (any_of HT_.out (by kernel_rfl)) (fun _ _ _ h => h) (Or.inl ⟨by rfl, ?_⟩) ?_ ?_
                          rotate_left
                          · intro w'
                            go_simp
                            with_reducible rfl
                          rotate_left
                          · simp only [Act.put, List.setIfInBounds_toArray, List.set_cons_zero, List.set_cons_succ, i64_w, i32_w]
                            rfl
                          refine pure_ (i := 12) (N := some 89) (v := ?_) (a' := ?_) #[true, true, true, true, true, false, true, false, true, true, true, false, true, false, false, false, false, false, false, false, false] rfl rfl (any_of HT_.out (by kernel_rfl)) (fun _ _ _ h => h) (Or.inl ⟨by rfl, ?_⟩) ?_ ?_
                          rotate_left
                          · intro w'
                            go_simp
                            with_reducible rfl
                          rotate_left
                          · simp only [Act.put, List.setIfInBounds_toArray, List.set_cons_zero, List.set_cons_succ, i64_w, i32_w]
                            rfl
                          refine pure_ (i := 14) (N := some 91) (v := ?_) (a' := ?_) #[true, true, true, true, true, false, true, false, true, true, true, false, true, false, true, false, false, false, false, false, false] rfl rfl (any_of HT_.out (by kernel_rfl)) (fun _ _ _ h => h) (Or.inl ⟨by rfl, ?_⟩) ?_ ?_
                          rotate_left
                          · intro w'
                            go_simp
                            with_reducible rfl
                          rotate_left
                          · simp only [Act.put, List.setIfInBounds_toArray, List.set_cons_zero, List.set_cons_succ, i64_w, i32_w]
                            rfl
                          refine pure_ (i := 17) (N := some 94) (v := ?_) (a' := ?_) #[true, true, true, true, true, false, true, false, true, true, true, false, true, false, true, false, false, true, false, false, false] rfl rfl (any_of HT_.out (by kernel_rfl)) (fun _ _ _ h => h) (Or.inl ⟨by rfl, ?_⟩) ?_ ?_
                          rotate_left
                          · intro w'
                            go_simp
                            with_reducible rfl
                          rotate_left
                          · simp only [Act.put, List.setIfInBounds_toArray, List.set_cons_zero, List.set_cons_succ, i64_w, i32_w]
                            rfl
                          refine take_ (i := 5) (N := some 82) (v := ?_) (a' := ?_) #[true, true, true, true, true, true, true, false, true, true, true, false, true, false, true, false, false, true, false, false, false] rfl rfl (take_ofW HT_.out HW_.out (by kernel_rfl)) (fun _ _ _ h => h) (Or.inl ⟨by rfl, ?_⟩) hHeld ?_ ?_
                          rotate_left
                          · rintro w' ⟨s0, s1⟩
                            go_simp
                            with_reducible rfl
                          rotate_left
                          · simp only [Act.put, List.setIfInBounds_toArray, List.set_cons_zero, List.set_cons_succ, i64_w, i32_w]
                            rfl
                          refine pure_ (i := 7) (N := some 84) (v := ?_) (a' := ?_) #[true, true, true, true, true, true, true, true, true, true, true, false, true, false, true, false, false, true, false, false, false] rfl rfl (any_of HT_.out (by kernel_rfl)) (fun _ _ _ h => h) (Or.inl ⟨by rfl, ?_⟩) ?_ ?_
                          rotate_left
                          · intro w'
                            go_simp
                            with_reducible rfl
                          rotate_left
                          · simp only [Act.put, List.setIfInBounds_toArray, List.set_cons_zero, List.set_cons_succ, i64_w, i32_w]
                            rfl
                          refine take_ (i := 11) (N := some 88) (v := ?_) (a' := ?_) #[true, true, true, true, true, true, true, true, true, true, true, true, true, false, true, false, false, true, false, false, false] rfl rfl (take_ofW HT_.out HW_.out (by kernel_rfl)) (fun _ _ _ h => h) (Or.inl ⟨by rfl, ?_⟩) hHeld ?_ ?_
                          rotate_left
                          · rintro w' ⟨s0, s1⟩
                            go_simp
                            with_reducible rfl
                          rotate_left
                          · simp only [Act.put, List.setIfInBounds_toArray, List.set_cons_zero, List.set_cons_succ, i64_w, i32_w]
                            rfl
                          refine pure_ (i := 13) (N := some 90) (v := ?_) (a' := ?_) #[true, true, true, true, true, true, true, true, true, true, true, true, true, true, true, false, false, true, false, false, false] rfl rfl (any_of HT_.out (by kernel_rfl)) (fun _ _ _ h => h) (Or.inl ⟨by rfl, ?_⟩) ?_ ?_
                          rotate_left
                          · intro w'
                            go_simp
                            with_reducible rfl
                          rotate_left
                          · simp only [Act.put, List.setIfInBounds_toArray, List.set_cons_zero, List.set_cons_succ, i64_w, i32_w]
                            rfl
                          refine pure_ (i := 15) (N := some 92) (v := ?_) (a' := ?_) #[true, true, true, true, true, true, true, true, true, true, true, true, true, true, true, true, false, true, false, false, false] rfl rfl (any_of HT_.out (by kernel_rfl)) (fun _ _ _ h => h) (Or.inl ⟨by rfl, ?_⟩) ?_ ?_
                          rotate_left
                          · intro w'
                            go_simp
                            with_reducible rfl
                          rotate_left
                          · simp only [Act.put, List.setIfInBounds_toArray, List.set_cons_zero, List.set_cons_succ, i64_w, i32_w]
                            rfl
                          refine pure_ (i := 16) (N := some 93) (v := ?_) (a' := ?_) #[true, true, true, true, true, true, true, true, true, true, true, true, true, true, true, true, true, true, false, false, false] rfl rfl (any_of HT_.out (by kernel_rfl)) (fun _ _ _ h => h) (Or.inl ⟨by rfl, ?_⟩) ?_ ?_
                          rotate_left
                          · intro w'
                            go_simp
                            with_reducible rfl
                          rotate_left
                          · simp only [Act.put, List.setIfInBounds_toArray, List.set_cons_zero, List.set_cons_succ, i64_w, i32_w]
                            rfl
                          refine pure_ (i := 18) (N := some 95) (v := ?_) (a' := ?_) #[true, true, true, true, true, true, true, true, true, true, true, true, true, true, true, true, true, true, true, false, false] rfl rfl (any_of HT_.out (by kernel_rfl)) (fun _ _ _ h => h) (Or.inl ⟨by rfl, ?_⟩) ?_ ?_
                          rotate_left
                          · intro w'
                            go_simp
                            with_reducible rfl
                          rotate_left
                          · simp only [Act.put, List.setIfInBounds_toArray, List.set_cons_zero, List.set_cons_succ, i64_w, i32_w]
                            rfl
                          refine pure_ (i := 19) (N := some 96) (v := ?_) (a' := ?_) #[true, true, true, true, true, true, true, true, true, true, true, true, true, true, true, true, true, true, true, true, false] rfl rfl (any_of HT_.out (by kernel_rfl)) (fun _ _ _ h => h) (Or.inl ⟨by rfl, ?_⟩) ?_ ?_
                          rotate_left
                          · intro w'
                            go_simp
                            with_reducible rfl
                          rotate_left
                          · simp only [Act.put, List.setIfInBounds_toArray, List.set_cons_zero, List.set_cons_succ, i64_w, i32_w]
                            rfl
                          refine last_ (i := 20) (N := none) #[true, true, true, true, true, true, true, true, true, true, true, true, true, true, true, true, true, true, true, true, true] rfl rfl (one_of HT_.out (by kernel_rfl)) (by decide) (fun K hK => ?_)
                          refine skip_ (w1 := ?_) (by rfl) rfl ?_ ?_
                          rotate_left
                          · go_simp
                            rfl
                          refine hK.out _ _ ?_
                          clear hK K
                          refine done_ (done_of HT_.out (by kernel_rfl)) ?_
                          try go_wp2
                          (try simp only [← hl20_2])
                          go_roundg k2
                          case measure => have := HJ11.out; have := HK2.out; omega
                          case rel => exact ⟨(y182), (wrap64 (x74_2 + 1)), (by first | rfl | (simp; done) | (simp [*]; done)), H', ⟨by have := HJ11.out; have := HK2.out; omega⟩, ⟨by (try simp only [hl20_2]); (with_reducible repeat (first | apply Kd.R_alloc | apply Kd.R_drewN | apply Kd.R_drew)); exact Kd.R_mono (Kd.R_far (p := ⟨go28, (x74_2 : Int).toNat, none⟩) (Kd.R_mono HO_11.out (fun k_ hk => (⟨hk, fun e_ => hk.2.2 (by rw [e_]; rfl)⟩ : _ ∧ k_ ≠ go28))) (fun _ hk => hk.2) (.int .i64 (wrap64 (Int.tdiv (wrap64 ((wrap64 ((rd x20_2 x74_2) * a1)) - (Int.tmod (wrap64 ((rd x20_2 x74_2) * a1)) a2))) a2)))) (fun _ hk => ⟨hk.1.1, ⟨hk.1.2.1, hk.1.2.2⟩⟩)⟩, ⟨by (try simp only [hl20_2]); (with_reducible repeat (first | apply Kd.R_alloc | apply Kd.R_drewN | apply Kd.R_drew)); exact Kd.R_mono (Kd.R_far (p := ⟨go28, (x74_2 : Int).toNat, none⟩) (Kd.R_mono HO_13.out (fun k_ hk => (⟨hk, fun e_ => hk.2.2 (by rw [e_]; rfl)⟩ : _ ∧ k_ ≠ go28))) (fun _ hk => hk.2) (.int .i64 (wrap64 (Int.tdiv (wrap64 ((wrap64 ((rd x20_2 x74_2) * a1)) - (Int.tmod (wrap64 ((rd x20_2 x74_2) * a1)) a2))) a2)))) (fun _ hk => ⟨hk.1.1, ⟨hk.1.2.1, hk.1.2.2⟩⟩)⟩, ⟨by (try simp only [hl20_2]); (with_reducible repeat (first | apply Kd.R_alloc | apply Kd.R_drewN | apply Kd.R_drew)); exact Kd.R_mono (Kd.R_far (p := ⟨go28, (x74_2 : Int).toNat, none⟩) (Kd.R_mono HO_17.out (fun k_ hk => (⟨hk, fun e_ => hk.2.2 (by rw [e_]; rfl)⟩ : _ ∧ k_ ≠ go28))) (fun _ hk => hk.2) (.int .i64 (wrap64 (Int.tdiv (wrap64 ((wrap64 ((rd x20_2 x74_2) * a1)) - (Int.tmod (wrap64 ((rd x20_2 x74_2) * a1)) a2))) a2)))) (fun _ hk => ⟨hk.1.1, ⟨hk.1.2.1, hk.1.2.2⟩⟩)⟩, ⟨by (try simp only [hl20_2]); (with_reducible repeat (first | apply Kd.R_alloc | apply Kd.R_drewN | apply Kd.R_drew)); exact HQ30.out⟩, ⟨by repeat (first | (with_reducible first | exact HB.out | apply below_alloc | apply pw_below_drewN | apply below_drew1 | refine below_set ?_ GB28.out) | exact HB.out)⟩⟩
                      · rw [if_neg c26] at H
                        exact absurd H (by simp)
                    · rw [if_neg c25] at H
                      exact absurd H (by simp)
                  · rw [if_neg c24] at H
                    have c24b0 : decide (x74_2 < (t177.length : Int)) = false := decide_eq_false c24
                    (try simp only [hl20_2] at c24b0)
                    (try simp only [hl22_4] at c24b0)
                    clear c24
                    (first | rw [c24b0] | (simp only [i64_w, i32_w]; rw [c24b0]) | skip)
                    replace H := Option.bind_eq_some_iff.mp H
                    obtain ⟨⟨t183, t184⟩, A310, H⟩ := H
                    replace H : (bakelaw2_FluxMoves.j2 k2 l0 l3 a4 t168 t169 t172 t173 t183 ([] : List Int) t184 1) = some r := H
                    have A31 := Aside0.mk A310
                    clear A310
                    have H' := Aside0.mk H
                    clear H
                    go_wp2_with (first | ((with_reducible refine gate_callee (f := 39) rfl ?_); refine goesL_ (some 100) rfl rfl Try.func39 (by kernel_rfl) rfl #[.slice Ao23 x20_2.length co23] rfl (by (try simp only [List.map_toArray, List.map_cons, List.map_nil]); first | done | rfl | (simp only [List.length_drop, List.length_take]; rfl)) ?_; (with_reducible refine (bakeref2_Between.calls k2 _ _ x20_2 t183 t184 _ ?side1 ?side2 A31.out).mono ?_); (case side1 => repeat (first | exact (Kd.R_reads' HO_20.out).2.2 | (with_reducible refine Kd.C_alloc ?_ _) | (with_reducible refine Kd.C_drewN ?_ _) | (with_reducible refine Kd.C_drew ?_))); (case side2 => exact (Kd.R_reads' HO_20.out).2.1); rintro e w32 ⟨v185, rfl, ho0, hb⟩; refine ⟨_, rfl, ?_⟩; have n0_ := Aside0.mk (Kd.R_elder' (by (with_reducible repeat (first | apply Kd.R_alloc | apply Kd.R_drewN | apply Kd.R_drew)); exact HO_11.out) (Kd.R_base ho0) hb); have n1_ := Aside0.mk (Kd.R_elder' (by (with_reducible repeat (first | apply Kd.R_alloc | apply Kd.R_drewN | apply Kd.R_drew)); exact HO_13.out) (Kd.R_base ho0) hb); have n2_ := Aside0.mk (Kd.R_elder' (by (with_reducible repeat (first | apply Kd.R_alloc | apply Kd.R_drewN | apply Kd.R_drew)); exact HO_17.out) (Kd.R_base ho0) hb); have n3_ := Aside0.mk (Kd.R_elder' (by (with_reducible repeat (first | apply Kd.R_alloc | apply Kd.R_drewN | apply Kd.R_drew)); exact HO_20.out) (Kd.R_base ho0) hb); have n4_ := Aside0.mk (Kd.R_lower (Kd.R_new' (Kd.R_new' (Kd.R_new' (Kd.R_new' ho0 (Kd.R_lt (by (with_reducible repeat (first | apply Kd.R_alloc | apply Kd.R_drewN | apply Kd.R_drew)); exact HO_11.out))) (Kd.R_lt (by (with_reducible repeat (first | apply Kd.R_alloc | apply Kd.R_drewN | apply Kd.R_drew)); exact HO_13.out))) (Kd.R_lt (by (with_reducible repeat (first | apply Kd.R_alloc | apply Kd.R_drewN | apply Kd.R_drew)); exact HO_17.out))) (Kd.R_lt (by (with_reducible repeat (first | apply Kd.R_alloc | apply Kd.R_drewN | apply Kd.R_drew)); exact HO_20.out))) (below_size (by repeat (first | (with_reducible first | exact HB.out | apply below_alloc | apply pw_below_drewN | apply below_drew1) | exact HB.out)))); have n5_ := Aside0.mk (below_step (by repeat (first | (with_reducible first | exact HB.out | apply below_alloc | apply pw_below_drewN | apply below_drew1) | exact HB.out)) hb); clear HO_11; clear HO_13; clear HO_17; clear HO_20; clear HB; have HO_11 := n0_; have HO_13 := n1_; have HO_17 := n2_; have HO_20 := n3_; have HO186 := n4_; have HB := n5_; clear n0_ n1_ n2_ n3_ n4_ n5_; (try clear hb); (try clear hb2); (try clear hk); (try clear hi); (try clear ho0)))
                    (try simp only [← hl20_2])
                    go_meet
                    case rel => exact ⟨_, (t168), (t172), (t183), (([] : List Int)), (t184), (by first | rfl | (simp; done) | (simp [*]; done)), H', ⟨by have := HJ11.out; have := HK2.out; first | omega | exact Nat.le_refl _⟩, ⟨by (try simp only [hl20_2]); (with_reducible repeat (first | apply Kd.R_alloc | apply Kd.R_drewN | apply Kd.R_drew)); exact Kd.R_mono HO_11.out (fun _ hk => ⟨hk.1.1, ⟨hk.2, hk.1.2.1⟩⟩)⟩, ⟨by (try simp only [hl20_2]); (with_reducible repeat (first | apply Kd.R_alloc | apply Kd.R_drewN | apply Kd.R_drew)); exact Kd.R_mono HO_13.out (fun _ hk => ⟨hk.1.1, ⟨hk.2, hk.1.2.1⟩⟩)⟩, ⟨by (try simp only [hl20_2]); (with_reducible repeat (first | apply Kd.R_alloc | apply Kd.R_drewN | apply Kd.R_drew)); exact Kd.R_mono HO186.out (fun _ hk => ⟨hk.1.1.1.2, hk.1.1.2⟩)⟩, ⟨by (try simp only [hl20_2]); (with_reducible repeat (first | apply Kd.R_alloc | apply Kd.R_drewN | apply Kd.R_drew)); exact Kd.R_mono HO_17.out (fun _ hk => ⟨hk.1.1, hk.1.2.1⟩)⟩, ⟨by repeat (first | (with_reducible first | exact HB.out | apply below_alloc | apply pw_below_drewN | apply below_drew1) | exact HB.out)⟩⟩
            · replace c20 := Bool.eq_false_iff.mpr c20
              subst c20
              have H1 : (bakelaw2_FluxMoves.j2 kj11 l0 l3 a4 t168 t169 t172 t173 ([] : List Int) ([] : List Int) 1 1) = some r := by rw [if_neg (show ¬ (false = true) by decide)] at H; exact H
              clear H
              have H := H1
              clear H1
              have H' := Aside0.mk H
              clear H
              go_wp2
              go_meet
              case rel => exact ⟨_, (t168), (t172), (([] : List Int)), (([] : List Int)), (1), (by first | rfl | (simp; done) | (simp [*]; done)), H', ⟨by have := HJ11.out; first | omega | exact Nat.le_refl _⟩, ⟨by (with_reducible repeat (first | apply Kd.R_alloc | apply Kd.R_drewN | apply Kd.R_drew)); exact HO_11.out⟩, ⟨by (with_reducible repeat (first | apply Kd.R_alloc | apply Kd.R_drewN | apply Kd.R_drew)); exact HO_13.out⟩, ⟨by (with_reducible repeat (first | apply Kd.R_alloc | apply Kd.R_drewN | apply Kd.R_drew)); exact HO_16.out⟩, ⟨by (with_reducible repeat (first | apply Kd.R_alloc | apply Kd.R_drewN | apply Kd.R_drew)); exact HO_17.out⟩, ⟨by repeat (first | (with_reducible first | exact HB.out | apply below_alloc | apply pw_below_drewN | apply below_drew1) | exact HB.out)⟩⟩
          case rest =>
            clear HC19
            try clear c1
            try clear p1
            try clear q1
            try clear hx1
            try clear c2
            try clear p2
            try clear q2
            try clear hx2
            try clear c3
            try clear c4
            try clear c5
            try clear p6
            try clear c7
            try clear c8
            try clear c11
            try clear c11b0
            try clear c11b1
            try clear c17
            try clear c17b0
            try clear p18
            try clear q18
            try clear hx18
            try clear c20
            try clear c24
            try clear c24b0
            try clear c25
            try clear c25b0
            try clear c26
            try clear c26b0
            try clear c27
            try clear c27b0
            try clear c27b1
            try clear p28
            try clear q28
            try clear hx28
            try clear hf28
            try clear c30
            try clear c32
            try clear hx180_0
            try clear hx181_0
            try clear hx28_0
            try clear p180
            try clear p181
            try clear p2
            try clear p28
            try clear p6
            try clear q180
            try clear q181
            try clear q28
            obtain ⟨kq, x11_18, x13_18, x16_18, x17_18, x18_18, rfl, HA, HJ18, HO_11, HO_13, HO_16, HO_17, HB⟩ := hcut
            cases kq with
            | zero => exact absurd HA.out (by simp [bakelaw2_FluxMoves.j2])
            | succ kj18 =>
              have H := HA.out
              clear HA
              simp only [bakelaw2_FluxMoves.j2] at H
              have HC33 := Aside0.mk H
              clear H
              go_upto_region 18 with (fail)
              go_cut [108] (fun v108 wc => ∃ (kq : Nat) (x108_32 : Bool), v108 = .bool x108_32 ∧ Aside0 (bakelaw2_FluxMoves.j3 kq l0 l3 a4 x11_18 t169 x13_18 t173 x16_18 x17_18 x18_18 1 x108_32 = some r) ∧ Aside0 (kq ≤ kj18) ∧ Aside0 (Kd.R (Kd.int .i64) 3 wc w.heap.size (fun k_ => some k_ ≠ (v174 : Value).ownBlock ∧ some k_ ≠ (u16 : Value).ownBlock ∧ some k_ ≠ ((.slice none 0 0) : Value).ownBlock) v170 x11_18) ∧ Aside0 (Kd.R (Kd.int .i64) 3 wc w.heap.size (fun k_ => some k_ ≠ (v170 : Value).ownBlock ∧ some k_ ≠ (u16 : Value).ownBlock ∧ some k_ ≠ ((.slice none 0 0) : Value).ownBlock) v174 x13_18) ∧ Aside0 (Kd.R (Kd.int .i64) 3 wc w.heap.size (fun k_ => some k_ ≠ (v170 : Value).ownBlock ∧ some k_ ≠ (v174 : Value).ownBlock) u16 x16_18) ∧ Aside0 (Kd.R (Kd.int .i64) 3 wc w.heap.size (fun k_ => some k_ ≠ (v170 : Value).ownBlock ∧ some k_ ≠ (v174 : Value).ownBlock) (.slice none 0 0) x17_18) ∧ Aside0 (Below w.heap.size w wc))
              case first =>
                have H := HC33.out
                clear HC33
                by_cases c34 : a4 ≥ 0
                · rw [if_pos c34] at H
                  have c34b0 : decide (0 ≤ a4) = true := decide_eq_true c34
                  clear c34
                  (first | rw [c34b0] | (simp only [i64_w, i32_w]; rw [c34b0]) | skip)
                  have H' := Aside0.mk H
                  clear H
                  go_wp2
                  go_meet
                  case rel => exact ⟨_, (decide (a4 ≤ 100000)), (by first | rfl | (simp; done) | (simp [*]; done)), H', ⟨by have := HJ11.out; have := HJ18.out; first | omega | exact Nat.le_refl _⟩, ⟨by (with_reducible repeat (first | apply Kd.R_alloc | apply Kd.R_drewN | apply Kd.R_drew)); exact HO_11.out⟩, ⟨by (with_reducible repeat (first | apply Kd.R_alloc | apply Kd.R_drewN | apply Kd.R_drew)); exact HO_13.out⟩, ⟨by (with_reducible repeat (first | apply Kd.R_alloc | apply Kd.R_drewN | apply Kd.R_drew)); exact HO_16.out⟩, ⟨by (with_reducible repeat (first | apply Kd.R_alloc | apply Kd.R_drewN | apply Kd.R_drew)); exact HO_17.out⟩, ⟨by repeat (first | (with_reducible first | exact HB.out | apply below_alloc | apply pw_below_drewN | apply below_drew1) | exact HB.out)⟩⟩
                · rw [if_neg c34] at H
                  have c34b0 : decide (0 ≤ a4) = false := decide_eq_false c34
                  clear c34
                  (first | rw [c34b0] | (simp only [i64_w, i32_w]; rw [c34b0]) | skip)
                  have H' := Aside0.mk H
                  clear H
                  go_wp2
                  go_meet
                  case rel => exact ⟨_, (false), (by first | rfl | (simp; done) | (simp [*]; done)), H', ⟨by have := HJ11.out; have := HJ18.out; first | omega | exact Nat.le_refl _⟩, ⟨by (with_reducible repeat (first | apply Kd.R_alloc | apply Kd.R_drewN | apply Kd.R_drew)); exact HO_11.out⟩, ⟨by (with_reducible repeat (first | apply Kd.R_alloc | apply Kd.R_drewN | apply Kd.R_drew)); exact HO_13.out⟩, ⟨by (with_reducible repeat (first | apply Kd.R_alloc | apply Kd.R_drewN | apply Kd.R_drew)); exact HO_16.out⟩, ⟨by (with_reducible repeat (first | apply Kd.R_alloc | apply Kd.R_drewN | apply Kd.R_drew)); exact HO_17.out⟩, ⟨by repeat (first | (with_reducible first | exact HB.out | apply below_alloc | apply pw_below_drewN | apply below_drew1) | exact HB.out)⟩⟩
              case rest =>
                clear HC33
                try clear c1
                try clear p1
                try clear q1
                try clear hx1
                try clear c2
                try clear p2
                try clear q2
                try clear hx2
                try clear c3
                try clear c4
                try clear c5
                try clear p6
                try clear c7
                try clear c8
                try clear c11
                try clear c11b0
                try clear c11b1
                try clear c17
                try clear c17b0
                try clear p18
                try clear q18
                try clear hx18
                try clear c20
                try clear c24
                try clear c24b0
                try clear c25
                try clear c25b0
                try clear c26
                try clear c26b0
                try clear c27
                try clear c27b0
                try clear c27b1
                try clear p28
                try clear q28
                try clear hx28
                try clear hf28
                try clear c30
                try clear c32
                try clear c34
                try clear c34b0
                try clear hx180_0
                try clear hx181_0
                try clear hx28_0
                try clear p1
                try clear p18
                try clear p180
                try clear p181
                try clear p2
                try clear p28
                try clear p6
                try clear q1
                try clear q18
                try clear q180
                try clear q181
                try clear q2
                try clear q28
                obtain ⟨kq, x108_32, rfl, HA, HJ32, HO_11, HO_13, HO_16, HO_17, HB⟩ := hcut
                cases kq with
                | zero => exact absurd HA.out (by simp [bakelaw2_FluxMoves.j3])
                | succ kj32 =>
                  have H := HA.out
                  clear HA
                  simp only [bakelaw2_FluxMoves.j3] at H
                  by_cases c35 : x108_32 = true
                  · subst c35
                    have H1 : ((bakeref2_Times.f kj32 l0).bind fun t187 => (bakelaw2_FluxMoves.l1 kj32 l3 a4 x11_18 t169 x13_18 t173 x16_18 x18_18 t187 (t187.length : Int) 0)) = some r := by rw [if_pos rfl] at H; exact H
                    clear H
                    have H := H1
                    clear H1
                    replace H := Option.bind_eq_some_iff.mp H
                    obtain ⟨t187, A360, H⟩ := H
                    replace H : (bakelaw2_FluxMoves.l1 kj32 l3 a4 x11_18 t169 x13_18 t173 x16_18 x18_18 t187 (t187.length : Int) 0) = some r := H
                    have A36 := Aside0.mk A360
                    clear A360
                    have H' := Aside0.mk H
                    clear H
                    go_wp2_with (first | ((with_reducible refine gate_callee (f := 36) rfl ?_); refine goesL_ (some 110) rfl rfl Try.func36 (by kernel_rfl) rfl #[.slice A0 l0.length c0] rfl (by (try simp only [List.map_toArray, List.map_cons, List.map_nil]); first | done | rfl | (simp only [List.length_drop, List.length_take]; rfl)) ?_; (with_reducible refine (bakeref2_Times.calls kj32 _ _ l0 t187 _ ?side1 ?side2 A36.out).mono ?_); (case side1 => repeat (first | exact (Kd.C_below HR0.out HB.out) | (with_reducible refine Kd.C_alloc ?_ _) | (with_reducible refine Kd.C_drewN ?_ _) | (with_reducible refine Kd.C_drew ?_))); (case side2 => exact HC0.out); rintro e w37 ⟨v188, rfl, ho0, hb⟩; refine ⟨_, rfl, ?_⟩; have n0_ := Aside0.mk (Kd.R_elder' (by (with_reducible repeat (first | apply Kd.R_alloc | apply Kd.R_drewN | apply Kd.R_drew)); exact HO_11.out) (Kd.R_base ho0) hb); have n1_ := Aside0.mk (Kd.R_elder' (by (with_reducible repeat (first | apply Kd.R_alloc | apply Kd.R_drewN | apply Kd.R_drew)); exact HO_13.out) (Kd.R_base ho0) hb); have n2_ := Aside0.mk (Kd.R_elder' (by (with_reducible repeat (first | apply Kd.R_alloc | apply Kd.R_drewN | apply Kd.R_drew)); exact HO_16.out) (Kd.R_base ho0) hb); have n3_ := Aside0.mk (Kd.R_elder' (by (with_reducible repeat (first | apply Kd.R_alloc | apply Kd.R_drewN | apply Kd.R_drew)); exact HO_17.out) (Kd.R_base ho0) hb); have n4_ := Aside0.mk (Kd.R_lower (Kd.R_new' (Kd.R_new' (Kd.R_new' (Kd.R_new' ho0 (Kd.R_lt (by (with_reducible repeat (first | apply Kd.R_alloc | apply Kd.R_drewN | apply Kd.R_drew)); exact HO_11.out))) (Kd.R_lt (by (with_reducible repeat (first | apply Kd.R_alloc | apply Kd.R_drewN | apply Kd.R_drew)); exact HO_13.out))) (Kd.R_lt (by (with_reducible repeat (first | apply Kd.R_alloc | apply Kd.R_drewN | apply Kd.R_drew)); exact HO_16.out))) (Kd.R_lt (by (with_reducible repeat (first | apply Kd.R_alloc | apply Kd.R_drewN | apply Kd.R_drew)); exact HO_17.out))) (below_size (by repeat (first | (with_reducible first | exact HB.out | apply below_alloc | apply pw_below_drewN | apply below_drew1) | exact HB.out)))); have n5_ := Aside0.mk (below_step (by repeat (first | (with_reducible first | exact HB.out | apply below_alloc | apply pw_below_drewN | apply below_drew1) | exact HB.out)) hb); clear HO_11; clear HO_13; clear HO_16; clear HO_17; clear HB; have HO_11 := n0_; have HO_13 := n1_; have HO_16 := n2_; have HO_17 := n3_; have HO189 := n4_; have HB := n5_; clear n0_ n1_ n2_ n3_ n4_ n5_; (try clear hb); (try clear hb2); (try clear hk); (try clear hi); (try clear ho0); obtain ⟨Ao38, co38, eo38⟩ := Kd.R_slice HO189.out; subst eo38))
                    go_loopg [113] kj32 (fun kq v113 w' => ∃ (x22_4 : List Int) (x113_4 : Int), v113 = .int .i64 x113_4 ∧ Aside0 (bakelaw2_FluxMoves.l1 kq l3 a4 x11_18 t169 x13_18 t173 x16_18 x18_18 x22_4 (t187.length : Int) x113_4 = some r) ∧ Aside0 (kq ≤ kj32) ∧ Aside0 (Kd.R (Kd.int .i64) 3 w' w.heap.size (fun k_ => some k_ ≠ (v174 : Value).ownBlock ∧ some k_ ≠ (u16 : Value).ownBlock ∧ some k_ ≠ ((.slice Ao38 t187.length co38) : Value).ownBlock) v170 x11_18) ∧ Aside0 (Kd.R (Kd.int .i64) 3 w' w.heap.size (fun k_ => some k_ ≠ (v170 : Value).ownBlock ∧ some k_ ≠ (u16 : Value).ownBlock ∧ some k_ ≠ ((.slice Ao38 t187.length co38) : Value).ownBlock) v174 x13_18) ∧ Aside0 (Kd.R (Kd.int .i64) 3 w' w.heap.size (fun k_ => some k_ ≠ (v170 : Value).ownBlock ∧ some k_ ≠ (v174 : Value).ownBlock ∧ some k_ ≠ ((.slice Ao38 t187.length co38) : Value).ownBlock) u16 x16_18) ∧ Aside0 (Kd.R (Kd.int .i64) 3 w' w.heap.size (fun k_ => some k_ ≠ (v170 : Value).ownBlock ∧ some k_ ≠ (v174 : Value).ownBlock ∧ some k_ ≠ (u16 : Value).ownBlock) (.slice Ao38 t187.length co38) x22_4) ∧ Aside0 (Below w.heap.size w w'))
                    case atStart => exact ⟨(t187), (0), (by first | rfl | (simp; done) | (simp [*]; done)), H', ⟨Nat.le_refl _⟩, ⟨by (with_reducible repeat (first | apply Kd.R_alloc | apply Kd.R_drewN | apply Kd.R_drew)); exact Kd.R_mono HO_11.out (fun _ hk => ⟨hk.1.1, ⟨hk.1.2.1, hk.2⟩⟩)⟩, ⟨by (with_reducible repeat (first | apply Kd.R_alloc | apply Kd.R_drewN | apply Kd.R_drew)); exact Kd.R_mono HO_13.out (fun _ hk => ⟨hk.1.1, ⟨hk.1.2.1, hk.2⟩⟩)⟩, ⟨by (with_reducible repeat (first | apply Kd.R_alloc | apply Kd.R_drewN | apply Kd.R_drew)); exact Kd.R_mono HO_16.out (fun _ hk => ⟨hk.1.1, ⟨hk.1.2, hk.2⟩⟩)⟩, ⟨by (with_reducible repeat (first | apply Kd.R_alloc | apply Kd.R_drewN | apply Kd.R_drew)); exact Kd.R_mono HO189.out (fun _ hk => ⟨hk.1.1.1.2, ⟨hk.1.1.2, hk.1.2⟩⟩)⟩, ⟨by repeat (first | (with_reducible first | exact HB.out | apply below_alloc | apply pw_below_drewN | apply below_drew1) | exact HB.out)⟩⟩
                    case round =>
                      clear H'
                      try clear c1
                      try clear p1
                      try clear q1
                      try clear hx1
                      try clear c2
                      try clear p2
                      try clear q2
                      try clear hx2
                      try clear c3
                      try clear c4
                      try clear c5
                      try clear p6
                      try clear c7
                      try clear c8
                      try clear c11
                      try clear c11b0
                      try clear c11b1
                      try clear c17
                      try clear c17b0
                      try clear p18
                      try clear q18
                      try clear hx18
                      try clear c20
                      try clear c24
                      try clear c24b0
                      try clear c25
                      try clear c25b0
                      try clear c26
                      try clear c26b0
                      try clear c27
                      try clear c27b0
                      try clear c27b1
                      try clear p28
                      try clear q28
                      try clear hx28
                      try clear hf28
                      try clear c30
                      try clear c32
                      try clear c34
                      try clear c34b0
                      try clear c35
                      try clear c36
                      try clear hx180_0
                      try clear hx181_0
                      try clear hx28_0
                      try clear p1
                      try clear p18
                      try clear p180
                      try clear p181
                      try clear p2
                      try clear p28
                      try clear p6
                      try clear q1
                      try clear q18
                      try clear q180
                      try clear q181
                      try clear q2
                      try clear q28
                      obtain ⟨x22_4, x113_4, rfl, HA, HK4, HO_11, HO_13, HO_16, HO_22, HB⟩ := hrel
                      have hl22_4 := (Kd.R_reads' HO_22.out).1
                      rw [hl22_4] at HO_22
                      (try simp only [hl22_4])
                      (try simp only [hl22_4] at HO_11)
                      (try simp only [hl22_4] at HO_13)
                      (try simp only [hl22_4] at HO_16)
                      cases gk with
                      | zero => exact absurd HA.out (by simp [bakelaw2_FluxMoves.l1])
                      | succ k4 =>
                        have H := HA.out
                        clear HA
                        simp only [bakelaw2_FluxMoves.l1] at H
                        by_cases c39 : x113_4 < (t187.length : Int)
                        · rw [if_pos c39] at H
                          have c39b0 : decide (x113_4 < (t187.length : Int)) = true := decide_eq_true c39
                          (try simp only [hl20_2] at c39b0)
                          (try simp only [hl22_4] at c39b0)
                          clear c39
                          by_cases c40 : (l3.length : Int) > 0
                          · rw [if_pos c40] at H
                            have c40b0 : decide (0 < (l3.length : Int)) = true := decide_eq_true c40
                            (try simp only [hl20_2] at c40b0)
                            (try simp only [hl22_4] at c40b0)
                            have c40b1 : decide (0 < l3.length) = true := decide_eq_true (by omega)
                            (try simp only [hl20_2] at c40b1)
                            (try simp only [hl22_4] at c40b1)
                            clear c40
                            by_cases c41 : 0 ≤ x113_4
                            · rw [if_pos c41] at H
                              have c41b0 : decide (0 ≤ x113_4) = true := decide_eq_true c41
                              clear c41
                              by_cases c42 : x113_4 < (x22_4.length : Int)
                              · rw [if_pos c42] at H
                                have c42b0 : decide (x113_4 < (x22_4.length : Int)) = true := decide_eq_true c42
                                (try simp only [hl20_2] at c42b0)
                                (try simp only [hl22_4] at c42b0)
                                clear c42
                                by_cases c43 : (l3.length : Int) = 0
                                · rw [if_pos c43] at H
                                  exact absurd H (by simp)
                                · rw [if_neg c43] at H
                                  have c43b0 : ((l3.length : Int) == 0) = false := beq_eq_false_iff_ne.mpr c43
                                  (try simp only [hl20_2] at c43b0)
                                  (try simp only [hl22_4] at c43b0)
                                  have c43b1 : ((l3.length : Int) != 0) = true := bne_iff_ne.mpr c43
                                  (try simp only [hl20_2] at c43b1)
                                  (try simp only [hl22_4] at c43b1)
                                  have c43b2 : ¬ (l3 = []) := fun h_ => c43 (by rw [h_]; rfl)
                                  obtain ⟨ji44, hji44⟩ : ∃ j_ : Int, (Int.tmod x113_4 (l3.length : Int)) = j_ := ⟨_, rfl⟩
                                  replace H : (if 0 ≤ (ji44) then (if (ji44) < (l3.length : Int) then (bakelaw2_FluxMoves.l1 k4 l3 a4 x11_18 t169 x13_18 t173 x16_18 x18_18 (x22_4.set (x113_4 : Int).toNat (wrap64 ((rd x22_4 x113_4) + (mn a4 (mx (wrap64 (-a4)) (rd l3 (ji44))))))) (t187.length : Int) (wrap64 (x113_4 + 1))) else (none)) else (none)) = some r := by first | (rw [hji44] at H; exact H) | (simp only [hji44] at H ⊢; exact H)
                                  by_cases c45 : 0 ≤ (ji44)
                                  · rw [if_pos c45] at H
                                    have c45b0 : decide (0 ≤ (ji44)) = true := decide_eq_true c45
                                    clear c45
                                    by_cases c46 : (ji44) < (l3.length : Int)
                                    · rw [if_pos c46] at H
                                      have c46b0 : decide ((ji44) < (l3.length : Int)) = true := decide_eq_true c46
                                      (try simp only [hl20_2] at c46b0)
                                      (try simp only [hl22_4] at c46b0)
                                      clear c46
                                      obtain ⟨ji47, hji47⟩ : ∃ j_ : Int, (mx (wrap64 (-a4)) (rd l3 (ji44))) = j_ := ⟨_, rfl⟩
                                      replace H : (bakelaw2_FluxMoves.l1 k4 l3 a4 x11_18 t169 x13_18 t173 x16_18 x18_18 (x22_4.set (x113_4 : Int).toNat (wrap64 ((rd x22_4 x113_4) + (mn a4 (ji47))))) (t187.length : Int) (wrap64 (x113_4 + 1))) = some r := by first | (rw [hji47] at H; exact H) | (simp only [hji47] at H ⊢; exact H)
                                      have hji47_ : (if (wrap64 (-a4)) < (rd l3 (ji44)) then (rd l3 (ji44)) else (wrap64 (-a4))) = ji47 := hji47
                                      obtain ⟨ji48, hji48⟩ : ∃ j_ : Int, (mn a4 (ji47)) = j_ := ⟨_, rfl⟩
                                      replace H : (bakelaw2_FluxMoves.l1 k4 l3 a4 x11_18 t169 x13_18 t173 x16_18 x18_18 (x22_4.set (x113_4 : Int).toNat (wrap64 ((rd x22_4 x113_4) + (ji48)))) (t187.length : Int) (wrap64 (x113_4 + 1))) = some r := by first | (rw [hji48] at H; exact H) | (simp only [hji48] at H ⊢; exact H)
                                      have hji48_ : (if (ji47) < a4 then (ji47) else a4) = ji48 := hji48
                                      obtain ⟨y192, hy192⟩ : ∃ y_ : List Int, y_ = (x22_4.set (x113_4 : Int).toNat (wrap64 ((rd x22_4 x113_4) + (ji48)))) := ⟨_, rfl⟩
                                      replace H : (bakelaw2_FluxMoves.l1 k4 l3 a4 x11_18 t169 x13_18 t173 x16_18 x18_18 y192 (t187.length : Int) (wrap64 (x113_4 + 1))) = some r := by first | (rw [hy192]; with_reducible exact H) | (have H2_ := (Option.bind_some _ _).symm.trans H; rw [hy192]; with_reducible exact H2_) | (have H2_ := (Option.bind_some _ _).symm.trans H; with_reducible exact H2_) | with_reducible exact H | (rw [hy192]; exact H) | exact H
                                      have Ny192 := Aside0.mk hy192
                                      clear hy192
                                      have H' := Aside0.mk H
                                      clear H
                                      try go_wp2
                                      have n0_ := Aside0.mk (Kd.R_drew HO_11.out)
                                      have n1_ := Aside0.mk (Kd.R_drew HO_13.out)
                                      have n2_ := Aside0.mk (Kd.R_drew HO_16.out)
                                      have n3_ := Aside0.mk (Kd.R_drew HO_22.out)
                                      have n4_ := Aside0.mk (below_drew1 HB.out)
                                      clear HO_11
                                      clear HO_13
                                      clear HO_16
                                      clear HO_22
                                      clear HB
                                      have HO_11 := n0_
                                      have HO_13 := n1_
                                      have HO_16 := n2_
                                      have HO_22 := n3_
                                      have HB := n4_
                                      clear n0_ n1_ n2_ n3_ n4_
                                      have p190 : 0 ≤ (x113_4 : Int) := of_decide_eq_true (by first | (with_reducible assumption) | assumption)
                                      have q190 : x113_4 < (x22_4.length : Int) := of_decide_eq_true (by first | (with_reducible assumption) | assumption)
                                      obtain ⟨ad190, e190, hx190_0⟩ := Kd.at_int (Kd.R_reads' HO_22.out).2.2 x113_4 p190 q190
                                      cases e190
                                      replace p190 := eq_true p190
                                      replace q190 := eq_true q190
                                      have p191 : 0 ≤ ((ji44) : Int) := of_decide_eq_true (by first | (with_reducible assumption) | assumption)
                                      have q191 : (ji44) < (l3.length : Int) := of_decide_eq_true (by first | (with_reducible assumption) | assumption)
                                      obtain ⟨ad191, e191, hx191_0⟩ := Kd.at_int HR3.out (ji44) p191 q191
                                      have hw191_0 := hx191_0
                                      cases e191
                                      replace hx191_0 := (HB.out.cell (World.block_lt_of_cell? w _ hx191_0)).trans hx191_0
                                      replace p191 := eq_true p191
                                      replace q191 := eq_true q191
                                      have p49 : 0 ≤ (x113_4 : Int) := of_decide_eq_true (by first | (with_reducible assumption) | assumption)
                                      have q49 : (x113_4 : Int) < ((x22_4.length : Int) : Int) := of_decide_eq_true (by first | (with_reducible assumption) | assumption)
                                      obtain ⟨go49, co49, eo49, gb49, gl49, cl49, HG49⟩ := Kd.R_form HO_22.out (by omega)
                                      (first | cases eo49 | (injection eo49 with ea_ en_ ec_; (first | subst ea_ | (injection ea_ with ea_; subst ea_)); subst ec_; clear en_))
                                      have GB49 := Aside0.mk gb49
                                      have GG49 := Aside0.mk HG49
                                      clear gb49 gl49 HG49
                                      (first | simp only [add_plain] at hx190_0 | skip)
                                      obtain ⟨hx49_0, hf49_0⟩ := Kd.R_celln 0 HO_22.out (x113_4 : Int) p49 q49
                                      replace p49 := eq_true p49
                                      replace q49 := eq_true q49
                                      have HP51 := Kd.R_putn HO_22.out (x113_4 : Int) (wrap64 ((rd x22_4 x113_4) + (ji48)))
                                      rw [← Ny192.out] at HP51
                                      have HQ51 := Aside0.mk HP51
                                      clear HP51
                                      refine start_ (n := 19) (S := fun w' => w'.cell? ⟨go49, (x113_4).toNat, none⟩ = some (.int .i64 (rd x22_4 x113_4)) ∧ w'.cell? (ad191.add ((ji44)).toNat) = some (.int .i64 (rd l3 (ji44)))) (ds := [18]) #[false, false, false, false, false, false, false, false, false, false, false, false, false, false, false, false, false, false, false] (by kernel_rfl) rfl rfl ⟨hx190_0, ((HB.out.cell (World.block_lt_of_cell? w _ hw191_0)).trans hw191_0)⟩ (fun hHeld => ?_); refine with_tabW bakelaw2_FluxMoves.tab24 bakelaw2_FluxMoves.bits24 (fun HT_ HW_ => ?_)
                                      generalize wr.drew = w50 at HO_11 HO_13 HO_16 HO_22 HB GG49 HQ51 hf49_0 hx190_0 hx191_0 hx49_0 hHeld ⊢
                                      refine pure_ (i := 0) (N := some 119) (v := ?_) (a' := ?_) #[true, false, false, false, false, false, false, false, false, false, false, false, false, false, false, false, false, false, false] rfl rfl (any_of HT_.out (by kernel_rfl)) (fun _ _ _ h => h) (Or.inl ⟨by rfl, ?_⟩) ?_ ?_
                                      rotate_left
                                      · intro w'
                                        go_simp
                                        with_reducible rfl
                                      rotate_left
                                      · simp only [Act.put, List.setIfInBounds_toArray, List.set_cons_zero, List.set_cons_succ, i64_w, i32_w]
                                        rfl
                                      refine pure_ (i := 1) (N := some 120) (v := ?_) (a' := ?_) #[true, true, false, false, false, false, false, false, false, false, false, false, false, false, false, false, false, false, false] rfl rfl (any_of HT_.out (by kernel_rfl)) (fun _ _ _ h => h) (Or.inl ⟨by rfl, ?_⟩) ?_ ?_
                                      rotate_left
                                      · intro w'
                                        go_simp
                                        with_reducible rfl
                                      rotate_left
                                      · simp only [Act.put, List.setIfInBounds_toArray, List.set_cons_zero, List.set_cons_succ, i64_w, i32_w]
                                        rfl
                                      refine pure_ (i := 2) (N := some 121) (v := ?_) (a' := ?_) #[true, true, true, false, false, false, false, false, false, false, false, false, false, false, false, false, false, false, false] rfl rfl (any_of HT_.out (by kernel_rfl)) (fun _ _ _ h => h) (Or.inl ⟨by rfl, ?_⟩) ?_ ?_
                                      rotate_left
                                      · intro w'
                                        go_simp
                                        with_reducible rfl
                                      rotate_left
                                      · simp only [Act.put, List.setIfInBounds_toArray, List.set_cons_zero, List.set_cons_succ, i64_w, i32_w]
                                        rfl
                                      refine pure_ (i := 4) (N := some 123) (v := ?_) (a' := ?_) #[true, true, true, false, true, false, false, false, false, false, false, false, false, false, false, false, false, false, false] rfl rfl (any_of HT_.out (by kernel_rfl)) (fun _ _ _ h => h) (Or.inl ⟨by rfl, ?_⟩) ?_ ?_
                                      rotate_left
                                      · intro w'
                                        go_simp
                                        with_reducible rfl
                                      rotate_left
                                      · simp only [Act.put, List.setIfInBounds_toArray, List.set_cons_zero, List.set_cons_succ, i64_w, i32_w]
                                        rfl
                                      refine pure_ (i := 5) (N := some 124) (v := ?_) (a' := ?_) #[true, true, true, false, true, true, false, false, false, false, false, false, false, false, false, false, false, false, false] rfl rfl (any_of HT_.out (by kernel_rfl)) (fun _ _ _ h => h) (Or.inl ⟨by rfl, ?_⟩) ?_ ?_
                                      rotate_left
                                      · intro w'
                                        go_simp
                                        with_reducible rfl
                                      rotate_left
                                      · simp only [Act.put, List.setIfInBounds_toArray, List.set_cons_zero, List.set_cons_succ, i64_w, i32_w]
                                        rfl
                                      refine pure_ (i := 6) (N := some 125) (v := ?_) (a' := ?_) #[true, true, true, false, true, true, true, false, false, false, false, false, false, false, false, false, false, false, false] rfl rfl (any_of HT_.out (by kernel_rfl)) (fun _ _ _ h => h) (Or.inl ⟨by rfl, ?_⟩) ?_ ?_
                                      rotate_left
                                      · intro w'
                                        go_simp
                                        with_reducible rfl
                                      rotate_left
                                      · simp only [Act.put, List.setIfInBounds_toArray, List.set_cons_zero, List.set_cons_succ, i64_w, i32_w]
                                        rfl
                                      refine pure_ (i := 7) (N := some 126) (v := ?_) (a' := ?_) #[true, true, true, false, true, true, true, true, false, false, false, false, false, false, false, false, false, false, false] rfl rfl (any_of HT_.out (by kernel_rfl)) (fun _ _ _ h => h) (Or.inl ⟨by rfl, ?_⟩) ?_ ?_
                                      rotate_left
                                      · intro w'
                                        go_simp
                                        with_reducible rfl
                                      rotate_left
                                      · simp only [Act.put, List.setIfInBounds_toArray, List.set_cons_zero, List.set_cons_succ, i64_w, i32_w]
                                        rfl
                                      refine pure_ (i := 8) (N := some 127) (v := ?_) (a' := ?_) #[true, true, true, false, true, true, true, true, true, false, false, false, false, false, false, false, false, false, false] rfl rfl (any_of HT_.out (by kernel_rfl)) (fun _ _ _ h => h) (Or.inl ⟨by rfl, ?_⟩) ?_ ?_
                                      rotate_left
                                      · intro w'
                                        go_simp
                                        with_reducible rfl
                                      rotate_left
                                      · simp only [Act.put, List.setIfInBounds_toArray, List.set_cons_zero, List.set_cons_succ, i64_w, i32_w]
                                        rfl
                                      refine pure_ (i := 9) (N := some 128) (v := ?_) (a' := ?_) #[true, true, true, false, true, true, true, true, true, true, false, false, false, false, false, false, false, false, false] rfl rfl (any_of HT_.out (by kernel_rfl)) (fun _ _ _ h => h) (Or.inl ⟨by rfl, ?_⟩) ?_ ?_
                                      rotate_left
                                      · intro w'
                                        go_simp
                                        with_reducible rfl
                                      rotate_left
                                      · simp only [Act.put, List.setIfInBounds_toArray, List.set_cons_zero, List.set_cons_succ, i64_w, i32_w]
                                        rfl
                                      refine pure_ (i := 10) (N := some 129) (v := ?_) (a' := ?_) #[true, true, true, false, true, true, true, true, true, true, true, false, false, false, false, false, false, false, false] rfl rfl (any_of HT_.out (by kernel_rfl)) (fun _ _ _ h => h) (Or.inl ⟨by rfl, ?_⟩) ?_ ?_
                                      rotate_left
                                      · intro w'
                                        go_simp
                                        with_reducible rfl
                                      rotate_left
                                      · simp only [Act.put, List.setIfInBounds_toArray, List.set_cons_zero, List.set_cons_succ, i64_w, i32_w]
                                        rfl
                                      refine pure_ (i := 11) (N := some 130) (v := ?_) (a' := ?_) #[true, true, true, false, true, true, true, true, true, true, true, true, false, false, false, false, false, false, false] rfl rfl (any_of HT_.out (by kernel_rfl)) (fun _ _ _ h => h) (Or.inl ⟨by rfl, ?_⟩) ?_ ?_
                                      rotate_left
                                      · intro w'
                                        go_simp
                                        with_reducible rfl
                                      rotate_left
                                      · simp only [Act.put, List.setIfInBounds_toArray, List.set_cons_zero, List.set_cons_succ, i64_w, i32_w]
                                        rfl
                                      refine pure_ (i := 12) (N := some 131) (v := ?_) (a' := ?_) #[true, true, true, false, true, true, true, true, true, true, true, true, true, false, false, false, false, false, false] rfl rfl (any_of HT_.out (by kernel_rfl)) (fun _ _ _ h => h) (Or.inl ⟨by rfl, ?_⟩) ?_ ?_
                                      rotate_left
                                      · intro w'
                                        go_simp
                                        with_reducible rfl
                                      rotate_left
                                      · simp only [Act.put, List.setIfInBounds_toArray, List.set_cons_zero, List.set_cons_succ, i64_w, i32_w]
                                        rfl
                                      refine take_ (i := 3) (N := some 122) (v := ?_) (a' := ?_) #[true, true, true, true, true, true, true, true, true, true, true, true, true, false, false, false, false, false, false] rfl rfl (take_ofW HT_.out HW_.out (by kernel_rfl)) (fun _ _ _ h => h) (Or.inl ⟨by rfl, ?_⟩) hHeld ?_ ?_
                                      rotate_left
                                      · rintro w' ⟨s0, s1⟩
                                        go_simp
                                        with_reducible rfl
                                      rotate_left
                                      · simp only [Act.put, List.setIfInBounds_toArray, List.set_cons_zero, List.set_cons_succ, i64_w, i32_w]
                                        rfl
                                      refine take_ (i := 13) (N := some 132) (v := ?_) (a' := ?_) #[true, true, true, true, true, true, true, true, true, true, true, true, true, true, false, false, false, false, false] rfl rfl (take_ofW HT_.out HW_.out (by kernel_rfl)) (fun _ _ _ h => h) (Or.inl ⟨by rfl, ?_⟩) hHeld ?_ ?_
                                      rotate_left
                                      · rintro w' ⟨s0, s1⟩
                                        go_simp
                                        with_reducible rfl
                                      rotate_left
                                      · simp only [Act.put, List.setIfInBounds_toArray, List.set_cons_zero, List.set_cons_succ, i64_w, i32_w]
                                        rfl
                                      refine pure_ (i := 14) (N := some 133) (v := ?_) (a' := ?_) #[true, true, true, true, true, true, true, true, true, true, true, true, true, true, true, false, false, false, false] rfl rfl (any_of HT_.out (by kernel_rfl)) (fun _ _ _ h => h) (Or.inl ⟨by rfl, ?_⟩) ?_ ?_
                                      rotate_left
                                      · intro w'
                                        go_simp
                                        with_reducible rfl
                                      rotate_left
                                      · simp only [Act.put, List.setIfInBounds_toArray, List.set_cons_zero, List.set_cons_succ, i64_w, i32_w]
                                        rfl
                                      refine pure_ (i := 15) (N := some 134) (v := ?_) (a' := ?_) #[true, true, true, true, true, true, true, true, true, true, true, true, true, true, true, true, false, false, false] rfl rfl (any_of HT_.out (by kernel_rfl)) (fun _ _ _ h => h) (Or.inl ⟨by rfl, ?_⟩) ?_ ?_
                                      rotate_left
                                      · intro w'
                                        go_simp
                                        with_reducible rfl
                                      rotate_left
                                      · simp only [Act.put, List.setIfInBounds_toArray, List.set_cons_zero, List.set_cons_succ, i64_w, i32_w]
                                        rfl
                                      refine pure_ (i := 16) (N := some 135) (v := ?_) (a' := ?_) #[true, true, true, true, true, true, true, true, true, true, true, true, true, true, true, true, true, false, false] rfl rfl (any_of HT_.out (by kernel_rfl)) (fun _ _ _ h => h) (Or.inl ⟨by rfl, ?_⟩) ?_ ?_
                                      rotate_left
                                      · intro w'
                                        go_simp
                                        with_reducible rfl
                                      rotate_left
                                      · simp only [Act.put, List.setIfInBounds_toArray, List.set_cons_zero, List.set_cons_succ, i64_w, i32_w]
                                        rfl
                                      refine pure_ (i := 17) (N := some 136) (v := ?_) (a' := ?_) #[true, true, true, true, true, true, true, true, true, true, true, true, true, true, true, true, true, true, false] rfl rfl (any_of HT_.out (by kernel_rfl)) (fun _ _ _ h => h) (Or.inl ⟨by rfl, ?_⟩) ?_ ?_
                                      rotate_left
                                      · intro w'
                                        go_simp
                                        with_reducible rfl
                                      rotate_left
                                      · simp only [Act.put, List.setIfInBounds_toArray, List.set_cons_zero, List.set_cons_succ, i64_w, i32_w]
                                        rfl
                                      refine last_ (i := 18) (N := none) #[true, true, true, true, true, true, true, true, true, true, true, true, true, true, true, true, true, true, true] rfl rfl (one_of HT_.out (by kernel_rfl)) (by decide) (fun K hK => ?_)
                                      refine skip_ (w1 := ?_) (by rfl) rfl ?_ ?_
                                      rotate_left
                                      · go_simp
                                        rfl
                                      refine hK.out _ _ ?_
                                      clear hK K
                                      refine done_ (done_of HT_.out (by kernel_rfl)) ?_
                                      try go_wp2
                                      (try simp only [← hl22_4])
                                      go_roundg k4
                                      case measure => have := HJ11.out; have := HJ18.out; have := HJ32.out; have := HK4.out; omega
                                      case rel => exact ⟨(y192), (wrap64 (x113_4 + 1)), (by first | rfl | (simp; done) | (simp [*]; done)), H', ⟨by have := HJ11.out; have := HJ18.out; have := HJ32.out; have := HK4.out; omega⟩, ⟨by (try simp only [hl22_4]); (with_reducible repeat (first | apply Kd.R_alloc | apply Kd.R_drewN | apply Kd.R_drew)); exact Kd.R_mono (Kd.R_far (p := ⟨go49, (x113_4 : Int).toNat, none⟩) (Kd.R_mono HO_11.out (fun k_ hk => (⟨hk, fun e_ => hk.2.2 (by rw [e_]; rfl)⟩ : _ ∧ k_ ≠ go49))) (fun _ hk => hk.2) (.int .i64 (wrap64 ((rd x22_4 x113_4) + (ji48))))) (fun _ hk => ⟨hk.1.1, ⟨hk.1.2.1, hk.1.2.2⟩⟩)⟩, ⟨by (try simp only [hl22_4]); (with_reducible repeat (first | apply Kd.R_alloc | apply Kd.R_drewN | apply Kd.R_drew)); exact Kd.R_mono (Kd.R_far (p := ⟨go49, (x113_4 : Int).toNat, none⟩) (Kd.R_mono HO_13.out (fun k_ hk => (⟨hk, fun e_ => hk.2.2 (by rw [e_]; rfl)⟩ : _ ∧ k_ ≠ go49))) (fun _ hk => hk.2) (.int .i64 (wrap64 ((rd x22_4 x113_4) + (ji48))))) (fun _ hk => ⟨hk.1.1, ⟨hk.1.2.1, hk.1.2.2⟩⟩)⟩, ⟨by (try simp only [hl22_4]); (with_reducible repeat (first | apply Kd.R_alloc | apply Kd.R_drewN | apply Kd.R_drew)); exact Kd.R_mono (Kd.R_far (p := ⟨go49, (x113_4 : Int).toNat, none⟩) (Kd.R_mono HO_16.out (fun k_ hk => (⟨hk, fun e_ => hk.2.2 (by rw [e_]; rfl)⟩ : _ ∧ k_ ≠ go49))) (fun _ hk => hk.2) (.int .i64 (wrap64 ((rd x22_4 x113_4) + (ji48))))) (fun _ hk => ⟨hk.1.1, ⟨hk.1.2.1, hk.1.2.2⟩⟩)⟩, ⟨by (try simp only [hl22_4]); (with_reducible repeat (first | apply Kd.R_alloc | apply Kd.R_drewN | apply Kd.R_drew)); exact HQ51.out⟩, ⟨by repeat (first | (with_reducible first | exact HB.out | apply below_alloc | apply pw_below_drewN | apply below_drew1 | refine below_set ?_ GB49.out) | exact HB.out)⟩⟩
                                    · rw [if_neg c46] at H
                                      exact absurd H (by simp)
                                  · rw [if_neg c45] at H
                                    exact absurd H (by simp)
                              · rw [if_neg c42] at H
                                exact absurd H (by simp)
                            · rw [if_neg c41] at H
                              exact absurd H (by simp)
                          · rw [if_neg c40] at H
                            have c40b0 : decide (0 < (l3.length : Int)) = false := decide_eq_false c40
                            (try simp only [hl20_2] at c40b0)
                            (try simp only [hl22_4] at c40b0)
                            have c40b1 : decide (0 < l3.length) = false := decide_eq_false (by omega)
                            (try simp only [hl20_2] at c40b1)
                            (try simp only [hl22_4] at c40b1)
                            clear c40
                            have H' := Aside0.mk H
                            clear H
                            go_wp2
                            (try simp only [← hl22_4])
                            go_roundg k4
                            case measure => have := HJ11.out; have := HJ18.out; have := HJ32.out; have := HK4.out; omega
                            case rel => exact ⟨(x22_4), (wrap64 (x113_4 + 1)), (by first | rfl | (simp; done) | (simp [*]; done)), H', ⟨by have := HJ11.out; have := HJ18.out; have := HJ32.out; have := HK4.out; omega⟩, ⟨by (try simp only [hl22_4]); (with_reducible repeat (first | apply Kd.R_alloc | apply Kd.R_drewN | apply Kd.R_drew)); exact HO_11.out⟩, ⟨by (try simp only [hl22_4]); (with_reducible repeat (first | apply Kd.R_alloc | apply Kd.R_drewN | apply Kd.R_drew)); exact HO_13.out⟩, ⟨by (try simp only [hl22_4]); (with_reducible repeat (first | apply Kd.R_alloc | apply Kd.R_drewN | apply Kd.R_drew)); exact HO_16.out⟩, ⟨by (try simp only [hl22_4]); (with_reducible repeat (first | apply Kd.R_alloc | apply Kd.R_drewN | apply Kd.R_drew)); exact HO_22.out⟩, ⟨by repeat (first | (with_reducible first | exact HB.out | apply below_alloc | apply pw_below_drewN | apply below_drew1) | exact HB.out)⟩⟩
                        · rw [if_neg c39] at H
                          have c39b0 : decide (x113_4 < (t187.length : Int)) = false := decide_eq_false c39
                          (try simp only [hl20_2] at c39b0)
                          (try simp only [hl22_4] at c39b0)
                          clear c39
                          replace H := Option.bind_eq_some_iff.mp H
                          obtain ⟨⟨t193, t194⟩, A520, H⟩ := H
                          replace H : (if t169 = x18_18 then (if t173 = t194 then ((slices_Equal_api_Track_int.f k4 x11_18 x16_18).bind fun t197 => (if t197 = true then ((slices_Equal_api_Track_int.f k4 x13_18 t193).bind fun t198 => (some t198)) else (some false))) else (some false)) else (some false)) = some r := H
                          have A52 := Aside0.mk A520
                          clear A520
                          by_cases c53 : t169 = x18_18
                          · rw [if_pos c53] at H
                            have c53b0 : (t169 == x18_18) = true := beq_iff_eq.mpr c53
                            have c53b1 : (t169 != x18_18) = false := bne_eq_false_iff_eq.mpr c53
                            clear c53
                            by_cases c54 : t173 = t194
                            · rw [if_pos c54] at H
                              have c54b0 : (t173 == t194) = true := beq_iff_eq.mpr c54
                              have c54b1 : (t173 != t194) = false := bne_eq_false_iff_eq.mpr c54
                              clear c54
                              replace H := Option.bind_eq_some_iff.mp H
                              obtain ⟨t197, A550, H⟩ := H
                              replace H : (if t197 = true then ((slices_Equal_api_Track_int.f k4 x13_18 t193).bind fun t198 => (some t198)) else (some false)) = some r := H
                              have A55 := Aside0.mk A550
                              clear A550
                              by_cases c56 : t197 = true
                              · subst c56
                                have H1 : ((slices_Equal_api_Track_int.f k4 x13_18 t193).bind fun t198 => (some t198)) = some r := by rw [if_pos rfl] at H; exact H
                                clear H
                                have H := H1
                                clear H1
                                replace H := Option.bind_eq_some_iff.mp H
                                obtain ⟨t198, A570, H⟩ := H
                                replace H : (some t198) = some r := H
                                have A57 := Aside0.mk A570
                                clear A570
                                obtain rfl := Option.some.inj H
                                go_wp2_with (first | ((with_reducible refine gate_callee (f := 39) rfl ?_); refine goesL_ (some 140) rfl rfl Try.func39 (by kernel_rfl) rfl #[.slice Ao38 x22_4.length co38] rfl (by (try simp only [List.map_toArray, List.map_cons, List.map_nil]); first | done | rfl | (simp only [List.length_drop, List.length_take]; rfl)) ?_; (with_reducible refine (bakeref2_Between.calls k4 _ _ x22_4 t193 t194 _ ?side1 ?side2 A52.out).mono ?_); (case side1 => repeat (first | exact (Kd.R_reads' HO_22.out).2.2 | (with_reducible refine Kd.C_alloc ?_ _) | (with_reducible refine Kd.C_drewN ?_ _) | (with_reducible refine Kd.C_drew ?_))); (case side2 => exact (Kd.R_reads' HO_22.out).2.1); rintro e w58 ⟨v195, rfl, ho0, hb⟩; refine ⟨_, rfl, ?_⟩; have n0_ := Aside0.mk (Kd.R_elder' (by (with_reducible repeat (first | apply Kd.R_alloc | apply Kd.R_drewN | apply Kd.R_drew)); exact HO_11.out) (Kd.R_base ho0) hb); have n1_ := Aside0.mk (Kd.R_elder' (by (with_reducible repeat (first | apply Kd.R_alloc | apply Kd.R_drewN | apply Kd.R_drew)); exact HO_13.out) (Kd.R_base ho0) hb); have n2_ := Aside0.mk (Kd.R_elder' (by (with_reducible repeat (first | apply Kd.R_alloc | apply Kd.R_drewN | apply Kd.R_drew)); exact HO_16.out) (Kd.R_base ho0) hb); have n3_ := Aside0.mk (Kd.R_elder' (by (with_reducible repeat (first | apply Kd.R_alloc | apply Kd.R_drewN | apply Kd.R_drew)); exact HO_22.out) (Kd.R_base ho0) hb); have n4_ := Aside0.mk (Kd.R_lower (Kd.R_new' (Kd.R_new' (Kd.R_new' (Kd.R_new' ho0 (Kd.R_lt (by (with_reducible repeat (first | apply Kd.R_alloc | apply Kd.R_drewN | apply Kd.R_drew)); exact HO_11.out))) (Kd.R_lt (by (with_reducible repeat (first | apply Kd.R_alloc | apply Kd.R_drewN | apply Kd.R_drew)); exact HO_13.out))) (Kd.R_lt (by (with_reducible repeat (first | apply Kd.R_alloc | apply Kd.R_drewN | apply Kd.R_drew)); exact HO_16.out))) (Kd.R_lt (by (with_reducible repeat (first | apply Kd.R_alloc | apply Kd.R_drewN | apply Kd.R_drew)); exact HO_22.out))) (below_size (by repeat (first | (with_reducible first | exact HB.out | apply below_alloc | apply pw_below_drewN | apply below_drew1) | exact HB.out)))); have n5_ := Aside0.mk (below_step (by repeat (first | (with_reducible first | exact HB.out | apply below_alloc | apply pw_below_drewN | apply below_drew1) | exact HB.out)) hb); clear HO_11; clear HO_13; clear HO_16; clear HO_22; clear HB; have HO_11 := n0_; have HO_13 := n1_; have HO_16 := n2_; have HO_22 := n3_; have HO196 := n4_; have HB := n5_; clear n0_ n1_ n2_ n3_ n4_ n5_; (try clear hb); (try clear hb2); (try clear hk); (try clear hi); (try clear ho0); obtain ⟨Ao59, co59, eo59⟩ := Kd.R_slice HO_11.out; subst eo59; obtain ⟨Ao60, co60, eo60⟩ := Kd.R_slice HO_16.out; subst eo60) | (go_at_call 40; (with_reducible refine (slices_Equal_api_Track_int.calls k4 _ _ x11_18 _ _ x16_18 true _ ?side1 ?side2 ?side3 ?side4 A55.out).mono ?_); (case side1 => repeat (first | exact (Kd.R_reads' HO_11.out).2.2 | (with_reducible refine Kd.C_alloc ?_ _) | (with_reducible refine Kd.C_drewN ?_ _) | (with_reducible refine Kd.C_drew ?_))); (case side2 => exact (Kd.R_reads' HO_11.out).2.1); (case side3 => repeat (first | exact (Kd.R_reads' HO_16.out).2.2 | (with_reducible refine Kd.C_alloc ?_ _) | (with_reducible refine Kd.C_drewN ?_ _) | (with_reducible refine Kd.C_drew ?_))); (case side4 => exact (Kd.R_reads' HO_16.out).2.1); rintro e w' ⟨rfl, ⟨nd, rfl⟩⟩; obtain ⟨Ao61, co61, eo61⟩ := Kd.R_slice HO_13.out; subst eo61; obtain ⟨Ao62, co62, eo62⟩ := Kd.R_slice HO196.out; subst eo62) | (go_at_call 40; (with_reducible refine (slices_Equal_api_Track_int.calls k4 _ _ x13_18 _ _ t193 t198 _ ?side1 ?side2 ?side3 ?side4 A57.out).mono ?_); (case side1 => repeat (first | exact (Kd.R_reads' HO_13.out).2.2 | (with_reducible refine Kd.C_alloc ?_ _) | (with_reducible refine Kd.C_drewN ?_ _) | (with_reducible refine Kd.C_drew ?_))); (case side2 => exact (Kd.R_reads' HO_13.out).2.1); (case side3 => repeat (first | exact (Kd.R_reads' HO196.out).2.2 | (with_reducible refine Kd.C_alloc ?_ _) | (with_reducible refine Kd.C_drewN ?_ _) | (with_reducible refine Kd.C_drew ?_))); (case side4 => exact (Kd.R_reads' HO196.out).2.1); rintro e w' ⟨rfl, ⟨nd, rfl⟩⟩))
                                go_ret
                                exact ⟨by first | rfl | (simp [errW_none, errW_some] <;> rfl) | (simp [*, errW_none, errW_some] <;> rfl), by repeat (first | (with_reducible first | exact HB.out | apply below_alloc | apply pw_below_drewN | apply below_drew1) | exact HB.out)⟩
                              · replace c56 := Bool.eq_false_iff.mpr c56
                                subst c56
                                have H1 : (some false) = some r := by rw [if_neg (show ¬ (false = true) by decide)] at H; exact H
                                clear H
                                have H := H1
                                clear H1
                                obtain rfl := Option.some.inj H
                                go_wp2_with (first | ((with_reducible refine gate_callee (f := 39) rfl ?_); refine goesL_ (some 140) rfl rfl Try.func39 (by kernel_rfl) rfl #[.slice Ao38 x22_4.length co38] rfl (by (try simp only [List.map_toArray, List.map_cons, List.map_nil]); first | done | rfl | (simp only [List.length_drop, List.length_take]; rfl)) ?_; (with_reducible refine (bakeref2_Between.calls k4 _ _ x22_4 t193 t194 _ ?side1 ?side2 A52.out).mono ?_); (case side1 => repeat (first | exact (Kd.R_reads' HO_22.out).2.2 | (with_reducible refine Kd.C_alloc ?_ _) | (with_reducible refine Kd.C_drewN ?_ _) | (with_reducible refine Kd.C_drew ?_))); (case side2 => exact (Kd.R_reads' HO_22.out).2.1); rintro e w63 ⟨v195, rfl, ho0, hb⟩; refine ⟨_, rfl, ?_⟩; have n0_ := Aside0.mk (Kd.R_elder' (by (with_reducible repeat (first | apply Kd.R_alloc | apply Kd.R_drewN | apply Kd.R_drew)); exact HO_11.out) (Kd.R_base ho0) hb); have n1_ := Aside0.mk (Kd.R_elder' (by (with_reducible repeat (first | apply Kd.R_alloc | apply Kd.R_drewN | apply Kd.R_drew)); exact HO_13.out) (Kd.R_base ho0) hb); have n2_ := Aside0.mk (Kd.R_elder' (by (with_reducible repeat (first | apply Kd.R_alloc | apply Kd.R_drewN | apply Kd.R_drew)); exact HO_16.out) (Kd.R_base ho0) hb); have n3_ := Aside0.mk (Kd.R_elder' (by (with_reducible repeat (first | apply Kd.R_alloc | apply Kd.R_drewN | apply Kd.R_drew)); exact HO_22.out) (Kd.R_base ho0) hb); have n4_ := Aside0.mk (Kd.R_lower (Kd.R_new' (Kd.R_new' (Kd.R_new' (Kd.R_new' ho0 (Kd.R_lt (by (with_reducible repeat (first | apply Kd.R_alloc | apply Kd.R_drewN | apply Kd.R_drew)); exact HO_11.out))) (Kd.R_lt (by (with_reducible repeat (first | apply Kd.R_alloc | apply Kd.R_drewN | apply Kd.R_drew)); exact HO_13.out))) (Kd.R_lt (by (with_reducible repeat (first | apply Kd.R_alloc | apply Kd.R_drewN | apply Kd.R_drew)); exact HO_16.out))) (Kd.R_lt (by (with_reducible repeat (first | apply Kd.R_alloc | apply Kd.R_drewN | apply Kd.R_drew)); exact HO_22.out))) (below_size (by repeat (first | (with_reducible first | exact HB.out | apply below_alloc | apply pw_below_drewN | apply below_drew1) | exact HB.out)))); have n5_ := Aside0.mk (below_step (by repeat (first | (with_reducible first | exact HB.out | apply below_alloc | apply pw_below_drewN | apply below_drew1) | exact HB.out)) hb); clear HO_11; clear HO_13; clear HO_16; clear HO_22; clear HB; have HO_11 := n0_; have HO_13 := n1_; have HO_16 := n2_; have HO_22 := n3_; have HO196 := n4_; have HB := n5_; clear n0_ n1_ n2_ n3_ n4_ n5_; (try clear hb); (try clear hb2); (try clear hk); (try clear hi); (try clear ho0); obtain ⟨Ao64, co64, eo64⟩ := Kd.R_slice HO_11.out; subst eo64; obtain ⟨Ao65, co65, eo65⟩ := Kd.R_slice HO_16.out; subst eo65) | (go_at_call 40; (with_reducible refine (slices_Equal_api_Track_int.calls k4 _ _ x11_18 _ _ x16_18 false _ ?side1 ?side2 ?side3 ?side4 A55.out).mono ?_); (case side1 => repeat (first | exact (Kd.R_reads' HO_11.out).2.2 | (with_reducible refine Kd.C_alloc ?_ _) | (with_reducible refine Kd.C_drewN ?_ _) | (with_reducible refine Kd.C_drew ?_))); (case side2 => exact (Kd.R_reads' HO_11.out).2.1); (case side3 => repeat (first | exact (Kd.R_reads' HO_16.out).2.2 | (with_reducible refine Kd.C_alloc ?_ _) | (with_reducible refine Kd.C_drewN ?_ _) | (with_reducible refine Kd.C_drew ?_))); (case side4 => exact (Kd.R_reads' HO_16.out).2.1); rintro e w' ⟨rfl, ⟨nd, rfl⟩⟩))
                                go_ret
                                exact ⟨by first | rfl | (simp [errW_none, errW_some] <;> rfl) | (simp [*, errW_none, errW_some] <;> rfl), by repeat (first | (with_reducible first | exact HB.out | apply below_alloc | apply pw_below_drewN | apply below_drew1) | exact HB.out)⟩
                            · rw [if_neg c54] at H
                              have c54b0 : (t173 == t194) = false := beq_eq_false_iff_ne.mpr c54
                              have c54b1 : (t173 != t194) = true := bne_iff_ne.mpr c54
                              obtain rfl := Option.some.inj H
                              go_wp2_with (first | ((with_reducible refine gate_callee (f := 39) rfl ?_); refine goesL_ (some 140) rfl rfl Try.func39 (by kernel_rfl) rfl #[.slice Ao38 x22_4.length co38] rfl (by (try simp only [List.map_toArray, List.map_cons, List.map_nil]); first | done | rfl | (simp only [List.length_drop, List.length_take]; rfl)) ?_; (with_reducible refine (bakeref2_Between.calls k4 _ _ x22_4 t193 t194 _ ?side1 ?side2 A52.out).mono ?_); (case side1 => repeat (first | exact (Kd.R_reads' HO_22.out).2.2 | (with_reducible refine Kd.C_alloc ?_ _) | (with_reducible refine Kd.C_drewN ?_ _) | (with_reducible refine Kd.C_drew ?_))); (case side2 => exact (Kd.R_reads' HO_22.out).2.1); rintro e w66 ⟨v195, rfl, ho0, hb⟩; refine ⟨_, rfl, ?_⟩; have n0_ := Aside0.mk (Kd.R_elder' (by (with_reducible repeat (first | apply Kd.R_alloc | apply Kd.R_drewN | apply Kd.R_drew)); exact HO_11.out) (Kd.R_base ho0) hb); have n1_ := Aside0.mk (Kd.R_elder' (by (with_reducible repeat (first | apply Kd.R_alloc | apply Kd.R_drewN | apply Kd.R_drew)); exact HO_13.out) (Kd.R_base ho0) hb); have n2_ := Aside0.mk (Kd.R_elder' (by (with_reducible repeat (first | apply Kd.R_alloc | apply Kd.R_drewN | apply Kd.R_drew)); exact HO_16.out) (Kd.R_base ho0) hb); have n3_ := Aside0.mk (Kd.R_elder' (by (with_reducible repeat (first | apply Kd.R_alloc | apply Kd.R_drewN | apply Kd.R_drew)); exact HO_22.out) (Kd.R_base ho0) hb); have n4_ := Aside0.mk (Kd.R_lower (Kd.R_new' (Kd.R_new' (Kd.R_new' (Kd.R_new' ho0 (Kd.R_lt (by (with_reducible repeat (first | apply Kd.R_alloc | apply Kd.R_drewN | apply Kd.R_drew)); exact HO_11.out))) (Kd.R_lt (by (with_reducible repeat (first | apply Kd.R_alloc | apply Kd.R_drewN | apply Kd.R_drew)); exact HO_13.out))) (Kd.R_lt (by (with_reducible repeat (first | apply Kd.R_alloc | apply Kd.R_drewN | apply Kd.R_drew)); exact HO_16.out))) (Kd.R_lt (by (with_reducible repeat (first | apply Kd.R_alloc | apply Kd.R_drewN | apply Kd.R_drew)); exact HO_22.out))) (below_size (by repeat (first | (with_reducible first | exact HB.out | apply below_alloc | apply pw_below_drewN | apply below_drew1) | exact HB.out)))); have n5_ := Aside0.mk (below_step (by repeat (first | (with_reducible first | exact HB.out | apply below_alloc | apply pw_below_drewN | apply below_drew1) | exact HB.out)) hb); clear HO_11; clear HO_13; clear HO_16; clear HO_22; clear HB; have HO_11 := n0_; have HO_13 := n1_; have HO_16 := n2_; have HO_22 := n3_; have HO196 := n4_; have HB := n5_; clear n0_ n1_ n2_ n3_ n4_ n5_; (try clear hb); (try clear hb2); (try clear hk); (try clear hi); (try clear ho0)))
                              go_ret
                              exact ⟨by first | rfl | (simp [errW_none, errW_some] <;> rfl) | (simp [*, errW_none, errW_some] <;> rfl), by repeat (first | (with_reducible first | exact HB.out | apply below_alloc | apply pw_below_drewN | apply below_drew1) | exact HB.out)⟩
                          · rw [if_neg c53] at H
                            have c53b0 : (t169 == x18_18) = false := beq_eq_false_iff_ne.mpr c53
                            have c53b1 : (t169 != x18_18) = true := bne_iff_ne.mpr c53
                            obtain rfl := Option.some.inj H
                            go_wp2_with (first | ((with_reducible refine gate_callee (f := 39) rfl ?_); refine goesL_ (some 140) rfl rfl Try.func39 (by kernel_rfl) rfl #[.slice Ao38 x22_4.length co38] rfl (by (try simp only [List.map_toArray, List.map_cons, List.map_nil]); first | done | rfl | (simp only [List.length_drop, List.length_take]; rfl)) ?_; (with_reducible refine (bakeref2_Between.calls k4 _ _ x22_4 t193 t194 _ ?side1 ?side2 A52.out).mono ?_); (case side1 => repeat (first | exact (Kd.R_reads' HO_22.out).2.2 | (with_reducible refine Kd.C_alloc ?_ _) | (with_reducible refine Kd.C_drewN ?_ _) | (with_reducible refine Kd.C_drew ?_))); (case side2 => exact (Kd.R_reads' HO_22.out).2.1); rintro e w67 ⟨v195, rfl, ho0, hb⟩; refine ⟨_, rfl, ?_⟩; have n0_ := Aside0.mk (Kd.R_elder' (by (with_reducible repeat (first | apply Kd.R_alloc | apply Kd.R_drewN | apply Kd.R_drew)); exact HO_11.out) (Kd.R_base ho0) hb); have n1_ := Aside0.mk (Kd.R_elder' (by (with_reducible repeat (first | apply Kd.R_alloc | apply Kd.R_drewN | apply Kd.R_drew)); exact HO_13.out) (Kd.R_base ho0) hb); have n2_ := Aside0.mk (Kd.R_elder' (by (with_reducible repeat (first | apply Kd.R_alloc | apply Kd.R_drewN | apply Kd.R_drew)); exact HO_16.out) (Kd.R_base ho0) hb); have n3_ := Aside0.mk (Kd.R_elder' (by (with_reducible repeat (first | apply Kd.R_alloc | apply Kd.R_drewN | apply Kd.R_drew)); exact HO_22.out) (Kd.R_base ho0) hb); have n4_ := Aside0.mk (Kd.R_lower (Kd.R_new' (Kd.R_new' (Kd.R_new' (Kd.R_new' ho0 (Kd.R_lt (by (with_reducible repeat (first | apply Kd.R_alloc | apply Kd.R_drewN | apply Kd.R_drew)); exact HO_11.out))) (Kd.R_lt (by (with_reducible repeat (first | apply Kd.R_alloc | apply Kd.R_drewN | apply Kd.R_drew)); exact HO_13.out))) (Kd.R_lt (by (with_reducible repeat (first | apply Kd.R_alloc | apply Kd.R_drewN | apply Kd.R_drew)); exact HO_16.out))) (Kd.R_lt (by (with_reducible repeat (first | apply Kd.R_alloc | apply Kd.R_drewN | apply Kd.R_drew)); exact HO_22.out))) (below_size (by repeat (first | (with_reducible first | exact HB.out | apply below_alloc | apply pw_below_drewN | apply below_drew1) | exact HB.out)))); have n5_ := Aside0.mk (below_step (by repeat (first | (with_reducible first | exact HB.out | apply below_alloc | apply pw_below_drewN | apply below_drew1) | exact HB.out)) hb); clear HO_11; clear HO_13; clear HO_16; clear HO_22; clear HB; have HO_11 := n0_; have HO_13 := n1_; have HO_16 := n2_; have HO_22 := n3_; have HO196 := n4_; have HB := n5_; clear n0_ n1_ n2_ n3_ n4_ n5_; (try clear hb); (try clear hb2); (try clear hk); (try clear hi); (try clear ho0)))
                            go_ret
                            exact ⟨by first | rfl | (simp [errW_none, errW_some] <;> rfl) | (simp [*, errW_none, errW_some] <;> rfl), by repeat (first | (with_reducible first | exact HB.out | apply below_alloc | apply pw_below_drewN | apply below_drew1) | exact HB.out)⟩
                  · replace c35 := Bool.eq_false_iff.mpr c35
                    subst c35
                    have H1 : (if t169 = x18_18 then (if t173 = 1 then ((slices_Equal_api_Track_int.f kj32 x11_18 x16_18).bind fun t199 => (if t199 = true then ((slices_Equal_api_Track_int.f kj32 x13_18 x17_18).bind fun t200 => (some t200)) else (some false))) else (some false)) else (some false)) = some r := by rw [if_neg (show ¬ (false = true) by decide)] at H; exact H
                    clear H
                    have H := H1
                    clear H1
                    by_cases c68 : t169 = x18_18
                    · rw [if_pos c68] at H
                      have c68b0 : (t169 == x18_18) = true := beq_iff_eq.mpr c68
                      have c68b1 : (t169 != x18_18) = false := bne_eq_false_iff_eq.mpr c68
                      clear c68
                      by_cases c69 : t173 = 1
                      · rw [if_pos c69] at H
                        have c69b0 : (t173 == 1) = true := beq_iff_eq.mpr c69
                        have c69b1 : (t173 != 1) = false := bne_eq_false_iff_eq.mpr c69
                        clear c69
                        replace H := Option.bind_eq_some_iff.mp H
                        obtain ⟨t199, A700, H⟩ := H
                        replace H : (if t199 = true then ((slices_Equal_api_Track_int.f kj32 x13_18 x17_18).bind fun t200 => (some t200)) else (some false)) = some r := H
                        have A70 := Aside0.mk A700
                        clear A700
                        by_cases c71 : t199 = true
                        · subst c71
                          have H1 : ((slices_Equal_api_Track_int.f kj32 x13_18 x17_18).bind fun t200 => (some t200)) = some r := by rw [if_pos rfl] at H; exact H
                          clear H
                          have H := H1
                          clear H1
                          replace H := Option.bind_eq_some_iff.mp H
                          obtain ⟨t200, A720, H⟩ := H
                          replace H : (some t200) = some r := H
                          have A72 := Aside0.mk A720
                          clear A720
                          obtain rfl := Option.some.inj H
                          obtain ⟨Ao73, co73, eo73⟩ := Kd.R_slice HO_11.out
                          subst eo73
                          obtain ⟨Ao74, co74, eo74⟩ := Kd.R_slice HO_16.out
                          subst eo74
                          go_wp2_with (first | (go_at_call 40; (with_reducible refine (slices_Equal_api_Track_int.calls kj32 _ _ x11_18 _ _ x16_18 true _ ?side1 ?side2 ?side3 ?side4 A70.out).mono ?_); (case side1 => repeat (first | exact (Kd.R_reads' HO_11.out).2.2 | (with_reducible refine Kd.C_alloc ?_ _) | (with_reducible refine Kd.C_drewN ?_ _) | (with_reducible refine Kd.C_drew ?_))); (case side2 => exact (Kd.R_reads' HO_11.out).2.1); (case side3 => repeat (first | exact (Kd.R_reads' HO_16.out).2.2 | (with_reducible refine Kd.C_alloc ?_ _) | (with_reducible refine Kd.C_drewN ?_ _) | (with_reducible refine Kd.C_drew ?_))); (case side4 => exact (Kd.R_reads' HO_16.out).2.1); rintro e w' ⟨rfl, ⟨nd, rfl⟩⟩; obtain ⟨Ao75, co75, eo75⟩ := Kd.R_slice HO_13.out; subst eo75) | (go_at_call 40; refine calls_of_args (args' := #[.slice Ao75 x13_18.length co75, .slice none x17_18.length 0]) (by first | (rw [show x17_18.length = 0 from (Kd.R_reads' HO_17.out).1.symm] <;> rfl) | rfl) ?_; (with_reducible refine (slices_Equal_api_Track_int.calls kj32 _ _ x13_18 _ _ x17_18 t200 _ ?side1 ?side2 ?side3 ?side4 A72.out).mono ?_); (case side1 => repeat (first | exact (Kd.R_reads' HO_13.out).2.2 | (with_reducible refine Kd.C_alloc ?_ _) | (with_reducible refine Kd.C_drewN ?_ _) | (with_reducible refine Kd.C_drew ?_))); (case side2 => exact (Kd.R_reads' HO_13.out).2.1); (case side3 => repeat (first | exact (Kd.R_reads' HO_17.out).2.2 | (with_reducible refine Kd.C_alloc ?_ _) | (with_reducible refine Kd.C_drewN ?_ _) | (with_reducible refine Kd.C_drew ?_))); (case side4 => rw [show x17_18.length = 0 from (Kd.R_reads' HO_17.out).1.symm]; exact (Kd.R_reads' HO_17.out).2.1); rintro e w' ⟨rfl, ⟨nd, rfl⟩⟩))
                          go_ret
                          exact ⟨by first | rfl | (simp [errW_none, errW_some] <;> rfl) | (simp [*, errW_none, errW_some] <;> rfl), by repeat (first | (with_reducible first | exact HB.out | apply below_alloc | apply pw_below_drewN | apply below_drew1) | exact HB.out)⟩
                        · replace c71 := Bool.eq_false_iff.mpr c71
                          subst c71
                          have H1 : (some false) = some r := by rw [if_neg (show ¬ (false = true) by decide)] at H; exact H
                          clear H
                          have H := H1
                          clear H1
                          obtain rfl := Option.some.inj H
                          obtain ⟨Ao76, co76, eo76⟩ := Kd.R_slice HO_11.out
                          subst eo76
                          obtain ⟨Ao77, co77, eo77⟩ := Kd.R_slice HO_16.out
                          subst eo77
                          go_wp2_with (first | (go_at_call 40; (with_reducible refine (slices_Equal_api_Track_int.calls kj32 _ _ x11_18 _ _ x16_18 false _ ?side1 ?side2 ?side3 ?side4 A70.out).mono ?_); (case side1 => repeat (first | exact (Kd.R_reads' HO_11.out).2.2 | (with_reducible refine Kd.C_alloc ?_ _) | (with_reducible refine Kd.C_drewN ?_ _) | (with_reducible refine Kd.C_drew ?_))); (case side2 => exact (Kd.R_reads' HO_11.out).2.1); (case side3 => repeat (first | exact (Kd.R_reads' HO_16.out).2.2 | (with_reducible refine Kd.C_alloc ?_ _) | (with_reducible refine Kd.C_drewN ?_ _) | (with_reducible refine Kd.C_drew ?_))); (case side4 => exact (Kd.R_reads' HO_16.out).2.1); rintro e w' ⟨rfl, ⟨nd, rfl⟩⟩))
                          go_ret
                          exact ⟨by first | rfl | (simp [errW_none, errW_some] <;> rfl) | (simp [*, errW_none, errW_some] <;> rfl), by repeat (first | (with_reducible first | exact HB.out | apply below_alloc | apply pw_below_drewN | apply below_drew1) | exact HB.out)⟩
                      · rw [if_neg c69] at H
                        have c69b0 : (t173 == 1) = false := beq_eq_false_iff_ne.mpr c69
                        have c69b1 : (t173 != 1) = true := bne_iff_ne.mpr c69
                        obtain rfl := Option.some.inj H
                        go_wp2
                        go_ret
                        exact ⟨by first | rfl | (simp [errW_none, errW_some] <;> rfl) | (simp [*, errW_none, errW_some] <;> rfl), by repeat (first | (with_reducible first | exact HB.out | apply below_alloc | apply pw_below_drewN | apply below_drew1) | exact HB.out)⟩
                    · rw [if_neg c68] at H
                      have c68b0 : (t169 == x18_18) = false := beq_eq_false_iff_ne.mpr c68
                      have c68b1 : (t169 != x18_18) = true := bne_iff_ne.mpr c68
                      obtain rfl := Option.some.inj H
                      go_wp2
                      go_ret
                      exact ⟨by first | rfl | (simp [errW_none, errW_some] <;> rfl) | (simp [*, errW_none, errW_some] <;> rfl), by repeat (first | (with_reducible first | exact HB.out | apply below_alloc | apply pw_below_drewN | apply below_drew1) | exact HB.out)⟩
    · rw [if_neg c11] at H
      have c11b0 : (t176 == 0) = false := beq_eq_false_iff_ne.mpr c11
      have c11b1 : (t176 != 0) = true := bne_iff_ne.mpr c11
      by_cases c78 : t169 = t176
      · rw [if_pos c78] at H
        have c78b0 : (t169 == t176) = true := beq_iff_eq.mpr c78
        have c78b1 : (t169 != t176) = false := bne_eq_false_iff_eq.mpr c78
        clear c78
        by_cases c79 : t173 = t176
        · rw [if_pos c79] at H
          have c79b0 : (t173 == t176) = true := beq_iff_eq.mpr c79
          have c79b1 : (t173 != t176) = false := bne_eq_false_iff_eq.mpr c79
          clear c79
          obtain rfl := Option.some.inj H
          go_enter Try.func8, Try.ntmps8
          go_wp2_with (first | ((with_reducible refine gate_callee (f := 30) rfl ?_); refine goesL_ (some 24) rfl rfl Try.func30 (by kernel_rfl) rfl #[] rfl (by (try simp only [List.map_toArray, List.map_cons, List.map_nil]); first | done | rfl | (simp only [List.length_drop, List.length_take]; rfl)) ?_; (with_reducible refine (bakelaw2_fluxBegun.calls k  true _ A6.out).mono ?_); rintro e w80 ⟨rfl, hb⟩; refine ⟨_, rfl, ?_⟩; have n0_ := Aside0.mk (below_step (by repeat (first | (with_reducible first | exact HB.out | apply below_alloc | apply pw_below_drewN | apply below_drew1) | exact HB.out)) hb); clear HB; have HB := n0_; clear n0_; (try clear hb); (try clear hb2); (try clear hk); (try clear hi)) | ((with_reducible refine gate_callee (f := 49) rfl ?_); refine goesL_ (some 30) rfl rfl Try.func49 (by kernel_rfl) rfl #[.slice A0 l0.length c0, .int .i64 a1, .int .i64 a2] rfl (by (try simp only [List.map_toArray, List.map_cons, List.map_nil]); first | done | rfl | (simp only [List.length_drop, List.length_take]; rfl)) ?_; (with_reducible refine (flux_Speed.calls k _ _ l0 a1 a2 t168 t169 _ ?side1 ?side2 A8.out).mono ?_); (case side1 => repeat (first | exact (Kd.C_below HR0.out HB.out) | (with_reducible refine Kd.C_alloc ?_ _) | (with_reducible refine Kd.C_drewN ?_ _) | (with_reducible refine Kd.C_drew ?_))); (case side2 => exact HC0.out); rintro e w81 ⟨v170, rfl, ho0, hb⟩; refine ⟨_, rfl, ?_⟩; have n0_ := Aside0.mk (Kd.R_lower ho0 (below_size (by repeat (first | (with_reducible first | exact HB.out | apply below_alloc | apply pw_below_drewN | apply below_drew1) | exact HB.out)))); have n1_ := Aside0.mk (below_step (by repeat (first | (with_reducible first | exact HB.out | apply below_alloc | apply pw_below_drewN | apply below_drew1) | exact HB.out)) hb); clear HB; have HO171 := n0_; have HB := n1_; clear n0_ n1_; (try clear hb); (try clear hb2); (try clear hk); (try clear hi); (try clear ho0)) | ((with_reducible refine gate_callee (f := 50) rfl ?_); refine goesL_ (some 37) rfl rfl Try.func50 (by kernel_rfl) rfl #[.slice A0 l0.length c0, .slice A3 l3.length c3, .int .i64 a4] rfl (by (try simp only [List.map_toArray, List.map_cons, List.map_nil]); first | done | rfl | (simp only [List.length_drop, List.length_take]; rfl)) ?_; (with_reducible refine (flux_Shake.calls k _ _ l0 _ _ l3 a4 t172 t173 _ ?side1 ?side2 ?side3 ?side4 A9.out).mono ?_); (case side1 => repeat (first | exact (Kd.C_below HR0.out HB.out) | (with_reducible refine Kd.C_alloc ?_ _) | (with_reducible refine Kd.C_drewN ?_ _) | (with_reducible refine Kd.C_drew ?_))); (case side2 => exact HC0.out); (case side3 => repeat (first | exact (Kd.C_below HR3.out HB.out) | (with_reducible refine Kd.C_alloc ?_ _) | (with_reducible refine Kd.C_drewN ?_ _) | (with_reducible refine Kd.C_drew ?_))); (case side4 => exact HC3.out); rintro e w82 ⟨v174, rfl, ho0, hb⟩; refine ⟨_, rfl, ?_⟩; have n0_ := Aside0.mk (Kd.R_elder' (by (with_reducible repeat (first | apply Kd.R_alloc | apply Kd.R_drewN | apply Kd.R_drew)); exact HO171.out) (Kd.R_base ho0) hb); have n1_ := Aside0.mk (Kd.R_lower (Kd.R_new' ho0 (Kd.R_lt (by (with_reducible repeat (first | apply Kd.R_alloc | apply Kd.R_drewN | apply Kd.R_drew)); exact HO171.out))) (below_size (by repeat (first | (with_reducible first | exact HB.out | apply below_alloc | apply pw_below_drewN | apply below_drew1) | exact HB.out)))); have n2_ := Aside0.mk (below_step (by repeat (first | (with_reducible first | exact HB.out | apply below_alloc | apply pw_below_drewN | apply below_drew1) | exact HB.out)) hb); clear HO171; clear HB; have HO171 := n0_; have HO175 := n1_; have HB := n2_; clear n0_ n1_ n2_; (try clear hb); (try clear hb2); (try clear hk); (try clear hi); (try clear ho0)) | ((with_reducible refine gate_callee (f := 32) rfl ?_); refine goesL_ (some 41) rfl rfl Try.func32 (by kernel_rfl) rfl #[.slice A0 l0.length c0] rfl (by (try simp only [List.map_toArray, List.map_cons, List.map_nil]); first | done | rfl | (simp only [List.length_drop, List.length_take]; rfl)) ?_; (with_reducible refine (bakeref2_TrackErr.calls k _ _ l0 t176 _ ?side1 ?side2 A10.out).mono ?_); (case side1 => repeat (first | exact (Kd.C_below HR0.out HB.out) | (with_reducible refine Kd.C_alloc ?_ _) | (with_reducible refine Kd.C_drewN ?_ _) | (with_reducible refine Kd.C_drew ?_))); (case side2 => exact HC0.out); rintro e w' ⟨rfl, ⟨nd, rfl⟩⟩; refine ⟨_, rfl, ?_⟩; obtain ⟨Ao83, co83, eo83⟩ := Kd.R_slice HO171.out; subst eo83; obtain ⟨Ao84, co84, eo84⟩ := Kd.R_slice HO175.out; subst eo84))
          go_ret
          exact ⟨by first | rfl | (simp [errW_none, errW_some] <;> rfl) | (simp [*, errW_none, errW_some] <;> rfl), by repeat (first | (with_reducible first | exact HB.out | apply below_alloc | apply pw_below_drewN | apply below_drew1) | exact HB.out)⟩
        · rw [if_neg c79] at H
          have c79b0 : (t173 == t176) = false := beq_eq_false_iff_ne.mpr c79
          have c79b1 : (t173 != t176) = true := bne_iff_ne.mpr c79
          obtain rfl := Option.some.inj H
          go_enter Try.func8, Try.ntmps8
          go_wp2_with (first | ((with_reducible refine gate_callee (f := 30) rfl ?_); refine goesL_ (some 24) rfl rfl Try.func30 (by kernel_rfl) rfl #[] rfl (by (try simp only [List.map_toArray, List.map_cons, List.map_nil]); first | done | rfl | (simp only [List.length_drop, List.length_take]; rfl)) ?_; (with_reducible refine (bakelaw2_fluxBegun.calls k  true _ A6.out).mono ?_); rintro e w85 ⟨rfl, hb⟩; refine ⟨_, rfl, ?_⟩; have n0_ := Aside0.mk (below_step (by repeat (first | (with_reducible first | exact HB.out | apply below_alloc | apply pw_below_drewN | apply below_drew1) | exact HB.out)) hb); clear HB; have HB := n0_; clear n0_; (try clear hb); (try clear hb2); (try clear hk); (try clear hi)) | ((with_reducible refine gate_callee (f := 49) rfl ?_); refine goesL_ (some 30) rfl rfl Try.func49 (by kernel_rfl) rfl #[.slice A0 l0.length c0, .int .i64 a1, .int .i64 a2] rfl (by (try simp only [List.map_toArray, List.map_cons, List.map_nil]); first | done | rfl | (simp only [List.length_drop, List.length_take]; rfl)) ?_; (with_reducible refine (flux_Speed.calls k _ _ l0 a1 a2 t168 t169 _ ?side1 ?side2 A8.out).mono ?_); (case side1 => repeat (first | exact (Kd.C_below HR0.out HB.out) | (with_reducible refine Kd.C_alloc ?_ _) | (with_reducible refine Kd.C_drewN ?_ _) | (with_reducible refine Kd.C_drew ?_))); (case side2 => exact HC0.out); rintro e w86 ⟨v170, rfl, ho0, hb⟩; refine ⟨_, rfl, ?_⟩; have n0_ := Aside0.mk (Kd.R_lower ho0 (below_size (by repeat (first | (with_reducible first | exact HB.out | apply below_alloc | apply pw_below_drewN | apply below_drew1) | exact HB.out)))); have n1_ := Aside0.mk (below_step (by repeat (first | (with_reducible first | exact HB.out | apply below_alloc | apply pw_below_drewN | apply below_drew1) | exact HB.out)) hb); clear HB; have HO171 := n0_; have HB := n1_; clear n0_ n1_; (try clear hb); (try clear hb2); (try clear hk); (try clear hi); (try clear ho0)) | ((with_reducible refine gate_callee (f := 50) rfl ?_); refine goesL_ (some 37) rfl rfl Try.func50 (by kernel_rfl) rfl #[.slice A0 l0.length c0, .slice A3 l3.length c3, .int .i64 a4] rfl (by (try simp only [List.map_toArray, List.map_cons, List.map_nil]); first | done | rfl | (simp only [List.length_drop, List.length_take]; rfl)) ?_; (with_reducible refine (flux_Shake.calls k _ _ l0 _ _ l3 a4 t172 t173 _ ?side1 ?side2 ?side3 ?side4 A9.out).mono ?_); (case side1 => repeat (first | exact (Kd.C_below HR0.out HB.out) | (with_reducible refine Kd.C_alloc ?_ _) | (with_reducible refine Kd.C_drewN ?_ _) | (with_reducible refine Kd.C_drew ?_))); (case side2 => exact HC0.out); (case side3 => repeat (first | exact (Kd.C_below HR3.out HB.out) | (with_reducible refine Kd.C_alloc ?_ _) | (with_reducible refine Kd.C_drewN ?_ _) | (with_reducible refine Kd.C_drew ?_))); (case side4 => exact HC3.out); rintro e w87 ⟨v174, rfl, ho0, hb⟩; refine ⟨_, rfl, ?_⟩; have n0_ := Aside0.mk (Kd.R_elder' (by (with_reducible repeat (first | apply Kd.R_alloc | apply Kd.R_drewN | apply Kd.R_drew)); exact HO171.out) (Kd.R_base ho0) hb); have n1_ := Aside0.mk (Kd.R_lower (Kd.R_new' ho0 (Kd.R_lt (by (with_reducible repeat (first | apply Kd.R_alloc | apply Kd.R_drewN | apply Kd.R_drew)); exact HO171.out))) (below_size (by repeat (first | (with_reducible first | exact HB.out | apply below_alloc | apply pw_below_drewN | apply below_drew1) | exact HB.out)))); have n2_ := Aside0.mk (below_step (by repeat (first | (with_reducible first | exact HB.out | apply below_alloc | apply pw_below_drewN | apply below_drew1) | exact HB.out)) hb); clear HO171; clear HB; have HO171 := n0_; have HO175 := n1_; have HB := n2_; clear n0_ n1_ n2_; (try clear hb); (try clear hb2); (try clear hk); (try clear hi); (try clear ho0)) | ((with_reducible refine gate_callee (f := 32) rfl ?_); refine goesL_ (some 41) rfl rfl Try.func32 (by kernel_rfl) rfl #[.slice A0 l0.length c0] rfl (by (try simp only [List.map_toArray, List.map_cons, List.map_nil]); first | done | rfl | (simp only [List.length_drop, List.length_take]; rfl)) ?_; (with_reducible refine (bakeref2_TrackErr.calls k _ _ l0 t176 _ ?side1 ?side2 A10.out).mono ?_); (case side1 => repeat (first | exact (Kd.C_below HR0.out HB.out) | (with_reducible refine Kd.C_alloc ?_ _) | (with_reducible refine Kd.C_drewN ?_ _) | (with_reducible refine Kd.C_drew ?_))); (case side2 => exact HC0.out); rintro e w' ⟨rfl, ⟨nd, rfl⟩⟩; refine ⟨_, rfl, ?_⟩))
          go_ret
          exact ⟨by first | rfl | (simp [errW_none, errW_some] <;> rfl) | (simp [*, errW_none, errW_some] <;> rfl), by repeat (first | (with_reducible first | exact HB.out | apply below_alloc | apply pw_below_drewN | apply below_drew1) | exact HB.out)⟩
      · rw [if_neg c78] at H
        have c78b0 : (t169 == t176) = false := beq_eq_false_iff_ne.mpr c78
        have c78b1 : (t169 != t176) = true := bne_iff_ne.mpr c78
        obtain rfl := Option.some.inj H
        go_enter Try.func8, Try.ntmps8
        go_wp2_with (first | ((with_reducible refine gate_callee (f := 30) rfl ?_); refine goesL_ (some 24) rfl rfl Try.func30 (by kernel_rfl) rfl #[] rfl (by (try simp only [List.map_toArray, List.map_cons, List.map_nil]); first | done | rfl | (simp only [List.length_drop, List.length_take]; rfl)) ?_; (with_reducible refine (bakelaw2_fluxBegun.calls k  true _ A6.out).mono ?_); rintro e w88 ⟨rfl, hb⟩; refine ⟨_, rfl, ?_⟩; have n0_ := Aside0.mk (below_step (by repeat (first | (with_reducible first | exact HB.out | apply below_alloc | apply pw_below_drewN | apply below_drew1) | exact HB.out)) hb); clear HB; have HB := n0_; clear n0_; (try clear hb); (try clear hb2); (try clear hk); (try clear hi)) | ((with_reducible refine gate_callee (f := 49) rfl ?_); refine goesL_ (some 30) rfl rfl Try.func49 (by kernel_rfl) rfl #[.slice A0 l0.length c0, .int .i64 a1, .int .i64 a2] rfl (by (try simp only [List.map_toArray, List.map_cons, List.map_nil]); first | done | rfl | (simp only [List.length_drop, List.length_take]; rfl)) ?_; (with_reducible refine (flux_Speed.calls k _ _ l0 a1 a2 t168 t169 _ ?side1 ?side2 A8.out).mono ?_); (case side1 => repeat (first | exact (Kd.C_below HR0.out HB.out) | (with_reducible refine Kd.C_alloc ?_ _) | (with_reducible refine Kd.C_drewN ?_ _) | (with_reducible refine Kd.C_drew ?_))); (case side2 => exact HC0.out); rintro e w89 ⟨v170, rfl, ho0, hb⟩; refine ⟨_, rfl, ?_⟩; have n0_ := Aside0.mk (Kd.R_lower ho0 (below_size (by repeat (first | (with_reducible first | exact HB.out | apply below_alloc | apply pw_below_drewN | apply below_drew1) | exact HB.out)))); have n1_ := Aside0.mk (below_step (by repeat (first | (with_reducible first | exact HB.out | apply below_alloc | apply pw_below_drewN | apply below_drew1) | exact HB.out)) hb); clear HB; have HO171 := n0_; have HB := n1_; clear n0_ n1_; (try clear hb); (try clear hb2); (try clear hk); (try clear hi); (try clear ho0)) | ((with_reducible refine gate_callee (f := 50) rfl ?_); refine goesL_ (some 37) rfl rfl Try.func50 (by kernel_rfl) rfl #[.slice A0 l0.length c0, .slice A3 l3.length c3, .int .i64 a4] rfl (by (try simp only [List.map_toArray, List.map_cons, List.map_nil]); first | done | rfl | (simp only [List.length_drop, List.length_take]; rfl)) ?_; (with_reducible refine (flux_Shake.calls k _ _ l0 _ _ l3 a4 t172 t173 _ ?side1 ?side2 ?side3 ?side4 A9.out).mono ?_); (case side1 => repeat (first | exact (Kd.C_below HR0.out HB.out) | (with_reducible refine Kd.C_alloc ?_ _) | (with_reducible refine Kd.C_drewN ?_ _) | (with_reducible refine Kd.C_drew ?_))); (case side2 => exact HC0.out); (case side3 => repeat (first | exact (Kd.C_below HR3.out HB.out) | (with_reducible refine Kd.C_alloc ?_ _) | (with_reducible refine Kd.C_drewN ?_ _) | (with_reducible refine Kd.C_drew ?_))); (case side4 => exact HC3.out); rintro e w90 ⟨v174, rfl, ho0, hb⟩; refine ⟨_, rfl, ?_⟩; have n0_ := Aside0.mk (Kd.R_elder' (by (with_reducible repeat (first | apply Kd.R_alloc | apply Kd.R_drewN | apply Kd.R_drew)); exact HO171.out) (Kd.R_base ho0) hb); have n1_ := Aside0.mk (Kd.R_lower (Kd.R_new' ho0 (Kd.R_lt (by (with_reducible repeat (first | apply Kd.R_alloc | apply Kd.R_drewN | apply Kd.R_drew)); exact HO171.out))) (below_size (by repeat (first | (with_reducible first | exact HB.out | apply below_alloc | apply pw_below_drewN | apply below_drew1) | exact HB.out)))); have n2_ := Aside0.mk (below_step (by repeat (first | (with_reducible first | exact HB.out | apply below_alloc | apply pw_below_drewN | apply below_drew1) | exact HB.out)) hb); clear HO171; clear HB; have HO171 := n0_; have HO175 := n1_; have HB := n2_; clear n0_ n1_ n2_; (try clear hb); (try clear hb2); (try clear hk); (try clear hi); (try clear ho0)) | ((with_reducible refine gate_callee (f := 32) rfl ?_); refine goesL_ (some 41) rfl rfl Try.func32 (by kernel_rfl) rfl #[.slice A0 l0.length c0] rfl (by (try simp only [List.map_toArray, List.map_cons, List.map_nil]); first | done | rfl | (simp only [List.length_drop, List.length_take]; rfl)) ?_; (with_reducible refine (bakeref2_TrackErr.calls k _ _ l0 t176 _ ?side1 ?side2 A10.out).mono ?_); (case side1 => repeat (first | exact (Kd.C_below HR0.out HB.out) | (with_reducible refine Kd.C_alloc ?_ _) | (with_reducible refine Kd.C_drewN ?_ _) | (with_reducible refine Kd.C_drew ?_))); (case side2 => exact HC0.out); rintro e w' ⟨rfl, ⟨nd, rfl⟩⟩; refine ⟨_, rfl, ?_⟩))
        go_ret
        exact ⟨by first | rfl | (simp [errW_none, errW_some] <;> rfl) | (simp [*, errW_none, errW_some] <;> rfl), by repeat (first | (with_reducible first | exact HB.out | apply below_alloc | apply pw_below_drewN | apply below_drew1) | exact HB.out)⟩
  · replace c7 := Bool.eq_false_iff.mpr c7
    subst c7
    have H1 : (some false) = some r := by rw [if_neg (show ¬ (false = true) by decide)] at H; exact H
    clear H
    have H := H1
    clear H1
    obtain rfl := Option.some.inj H
    go_enter Try.func8, Try.ntmps8
    go_wp2_with (first | ((with_reducible refine gate_callee (f := 30) rfl ?_); refine goesL_ (some 24) rfl rfl Try.func30 (by kernel_rfl) rfl #[] rfl (by (try simp only [List.map_toArray, List.map_cons, List.map_nil]); first | done | rfl | (simp only [List.length_drop, List.length_take]; rfl)) ?_; (with_reducible refine (bakelaw2_fluxBegun.calls k  false _ A6.out).mono ?_); rintro e w91 ⟨rfl, hb⟩; refine ⟨_, rfl, ?_⟩; have n0_ := Aside0.mk (below_step (by repeat (first | (with_reducible first | exact HB.out | apply below_alloc | apply pw_below_drewN | apply below_drew1) | exact HB.out)) hb); clear HB; have HB := n0_; clear n0_; (try clear hb); (try clear hb2); (try clear hk); (try clear hi)))
    go_ret
    exact ⟨by first | rfl | (simp [errW_none, errW_some] <;> rfl) | (simp [*, errW_none, errW_some] <;> rfl), by repeat (first | (with_reducible first | exact HB.out | apply below_alloc | apply pw_below_drewN | apply below_drew1) | exact HB.out)⟩

/-- THE ONE PURE STATEMENT of bakelaw2_FluxMoves. -/
def bakelaw2_FluxMoves.Pure : Prop := ∀ (x0 : List Int) (x1 : Int) (x2 : Int) (x3 : List Int) (x4 : Int), (∀ y0 ∈ x0, ((Lit.int .i64 y0).wf = true)) → (x0.length * 8 ≤ 140737488351232 ∧ ∀ y0 ∈ x0, (True)) → (Lit.int .i64 x1).wf = true → (Lit.int .i64 x2).wf = true → (∀ y0 ∈ x3, ((Lit.int .i64 y0).wf = true)) → (x3.length * 8 ≤ 140737488351232 ∧ ∀ y0 ∈ x3, (True)) → (Lit.int .i64 x4).wf = true → ∃ k, bakelaw2_FluxMoves.f k x0 x1 x2 x3 x4 = some true

end Go.Proofs.Ytgiodeiibmbhhaa.PFluxMoves
