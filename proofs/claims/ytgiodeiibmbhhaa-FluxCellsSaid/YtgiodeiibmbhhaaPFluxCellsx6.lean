-- Written by this session's own program (wip/mp, over the kit's print) for this claim; Lean checks it.
import Derived.Test.YtgiodeiibmbhhaaPFluxCellsx0
import Derived.Test.YtgiodeiibmbhhaaPFluxCellsx1
import Derived.Test.YtgiodeiibmbhhaaPFluxCellsx2
import Derived.Test.YtgiodeiibmbhhaaPFluxCellsx3
import Derived.Test.YtgiodeiibmbhhaaPFluxCellsx4
import Derived.Test.YtgiodeiibmbhhaaPFluxCellsx5
namespace Go.Proofs.Ytgiodeiibmbhhaa.PFluxCells
open Go.RowKit Go.Proofs.YtgiodeiibmbhhaaW.PrintWords Go.Proofs.YtgiodeiibmbhhaaW.PrintLast Go.Proofs.YtgiodeiibmbhhaaW.PrintMore
attribute [local go_sem] max2_int min2_int max_two min_two max_three min_three max_four min_four   -- for this text's walks alone
set_option linter.unusedVariables false
set_option linter.unusedSimpArgs false

/-! ### bakelaw2_FluxCells: function 13 -/
mutual
def bakelaw2_FluxCells.j0 : Nat → List Int → List Int → Int → Int → Int → List Int → List Int → Int → List Int → Int → Option (Bool)
  | 0, _, _, _, _, _, _, _, _, _, _ => none
  | k + 1, x0, x1, x2, x3, x4, x5, x13, x14, x15, x16 => if x16 = 0 then (if x2 < 0 then (bakelaw2_FluxCells.j1 k x0 x1 x2 x3 x4 x5 x13 x14 x15 x16 true) else ((bakeref2_End.f k x0).bind fun t205 => (bakelaw2_FluxCells.j1 k x0 x1 x2 x3 x4 x5 x13 x14 x15 x16 (decide (x2 > t205))))) else (bakelaw2_FluxCells.j1 k x0 x1 x2 x3 x4 x5 x13 x14 x15 x16 false)
def bakelaw2_FluxCells.j1 : Nat → List Int → List Int → Int → Int → Int → List Int → List Int → Int → List Int → Int → Bool → Option (Bool)
  | 0, _, _, _, _, _, _, _, _, _, _, _ => none
  | k + 1, x0, x1, x2, x3, x4, x5, x13, x14, x15, x16, x60 => if x60 = true then (bakelaw2_FluxCells.j2 k x0 x1 x2 x3 x4 x5 x13 x14 x15 1) else (bakelaw2_FluxCells.j2 k x0 x1 x2 x3 x4 x5 x13 x14 x15 x16)
def bakelaw2_FluxCells.j2 : Nat → List Int → List Int → Int → Int → Int → List Int → List Int → Int → List Int → Int → Option (Bool)
  | 0, _, _, _, _, _, _, _, _, _, _ => none
  | k + 1, x0, x1, x2, x3, x4, x5, x13, x14, x15, x16 => if x16 = 0 then ((bakeref2_Times.f k x0).bind fun t206 => (bakelaw2_FluxCells.l0 k x0 x1 x2 x3 x4 x5 x13 x14 ([] : List Int) t206 (t206.length : Int) 0)) else (bakelaw2_FluxCells.j6 k x0 x3 x4 x5 x13 x14 x15 x16)
def bakelaw2_FluxCells.j6 : Nat → List Int → Int → Int → List Int → List Int → Int → List Int → Int → Option (Bool)
  | 0, _, _, _, _, _, _, _, _ => none
  | k + 1, x0, x3, x4, x5, x13, x14, x15, x16 => (flux_Cells.f k x0 x3 x4).bind fun bt232 => ((bakeref2_Counts.f k x0 x3 x4).bind fun bt236 => ((flux_Pulses.f k x5 x3).bind fun bt240 => (if x3 < 2 then (bakelaw2_FluxCells.j7 k x3 x5 x13 x14 x15 x16 bt232.1 bt232.2 bt236.1 bt236.2 bt240.1 bt240.2 ([] : List Int) 0 true) else (bakelaw2_FluxCells.j7 k x3 x5 x13 x14 x15 x16 bt232.1 bt232.2 bt236.1 bt236.2 bt240.1 bt240.2 ([] : List Int) 0 (decide (x3 > 1000))))))
def bakelaw2_FluxCells.j7 : Nat → Int → List Int → List Int → Int → List Int → Int → List Int → Int → List Int → Int → List Int → Int → List Int → Int → Bool → Option (Bool)
  | 0, _, _, _, _, _, _, _, _, _, _, _, _, _, _, _ => none
  | k + 1, x3, x5, x13, x14, x15, x16, x24, x25, x26, x27, x28, x29, x30, x31, x148 => if x148 = true then (if x14 = x16 then ((slices_Equal_api_Track_int.f k x13 x15).bind fun t244 => (if t244 = true then (if x25 = x27 then ((slices_Equal_int_int.f k x24 x26).bind fun t245 => (if t245 = true then (if x29 = 1 then ((slices_Equal_api_Track_int.f k x28 x30).bind fun t246 => (some t246)) else (some false)) else (some false))) else (some false)) else (some false))) else (some false)) else (if (x5.length : Int) > 40000 then (if x14 = x16 then ((slices_Equal_api_Track_int.f k x13 x15).bind fun t247 => (if t247 = true then (if x25 = x27 then ((slices_Equal_int_int.f k x24 x26).bind fun t248 => (if t248 = true then (if x29 = 2 then ((slices_Equal_api_Track_int.f k x28 x30).bind fun t249 => (some t249)) else (some false)) else (some false))) else (some false)) else (some false))) else (some false)) else ((slices_ContainsFunc_bakelaw2_FluxCells_1.f k x5).bind fun t250 => (if t250 = true then (if x14 = x16 then ((slices_Equal_api_Track_int.f k x13 x15).bind fun t251 => (if t251 = true then (if x25 = x27 then ((slices_Equal_int_int.f k x24 x26).bind fun t252 => (if t252 = true then (if x29 = 3 then ((slices_Equal_api_Track_int.f k x28 x30).bind fun t253 => (some t253)) else (some false)) else (some false))) else (some false)) else (some false))) else (some false)) else (bakelaw2_FluxCells.l3 k x3 x13 x14 x15 x16 x24 x25 x26 x27 x28 x29 x30 x31 x5 (x5.length : Int) 0))))
def bakelaw2_FluxCells.l3 : Nat → Int → List Int → Int → List Int → Int → List Int → Int → List Int → Int → List Int → Int → List Int → Int → List Int → Int → Int → Option (Bool)
  | 0, _, _, _, _, _, _, _, _, _, _, _, _, _, _, _, _ => none
  | k + 1, x3, x13, x14, x15, x16, x24, x25, x26, x27, x28, x29, x30, x31, x135, x136, x137 => if x137 < x136 then (if 0 ≤ x137 then (if x137 < (x135.length : Int) then (if x30.length < 17592186044416 then (bakelaw2_FluxCells.l3 k x3 x13 x14 x15 x16 x24 x25 x26 x27 x28 x29 (x30 ++ [wrap64 (x3 * (rd x135 x137))]) x31 x135 x136 (wrap64 (x137 + 1))) else (none)) else (none)) else (none)) else (if x14 = x16 then ((slices_Equal_api_Track_int.f k x13 x15).bind fun t258 => (if t258 = true then (if x25 = x27 then ((slices_Equal_int_int.f k x24 x26).bind fun t259 => (if t259 = true then (if x29 = x31 then ((slices_Equal_api_Track_int.f k x28 x30).bind fun t260 => (some t260)) else (some false)) else (some false))) else (some false)) else (some false))) else (some false))
def bakelaw2_FluxCells.l0 : Nat → List Int → List Int → Int → Int → Int → List Int → List Int → Int → List Int → List Int → Int → Int → Option (Bool)
  | 0, _, _, _, _, _, _, _, _, _, _, _, _ => none
  | k + 1, x0, x1, x2, x3, x4, x5, x13, x14, x17, x64, x65, x66 => if x66 < x65 then (if 0 ≤ x66 then (if x66 < (x64.length : Int) then (if (rd x64 x66) ≤ x2 then (if x17.length < 17592186044416 then (bakelaw2_FluxCells.l0 k x0 x1 x2 x3 x4 x5 x13 x14 (x17 ++ [rd x64 x66]) x64 x65 (wrap64 (x66 + 1))) else (none)) else (bakelaw2_FluxCells.l0 k x0 x1 x2 x3 x4 x5 x13 x14 x17 x64 x65 (wrap64 (x66 + 1)))) else (none)) else (none)) else ((bakeref2_Times.f k x1).bind fun t213 => (bakelaw2_FluxCells.l1 k x0 x1 x2 x3 x4 x5 x13 x14 x17 t213 (t213.length : Int) 0))
def bakelaw2_FluxCells.l1 : Nat → List Int → List Int → Int → Int → Int → List Int → List Int → Int → List Int → List Int → Int → Int → Option (Bool)
  | 0, _, _, _, _, _, _, _, _, _, _, _, _ => none
  | k + 1, x0, x1, x2, x3, x4, x5, x13, x14, x17, x79, x80, x81 => if x81 < x80 then (if 0 ≤ x81 then (if x81 < (x79.length : Int) then (if x17.length < 17592186044416 then (bakelaw2_FluxCells.l1 k x0 x1 x2 x3 x4 x5 x13 x14 (x17 ++ [wrap64 (x2 + (rd x79 x81))]) x79 x80 (wrap64 (x81 + 1))) else (none)) else (none)) else (none)) else ((bakeref2_Times.f k x0).bind fun t220 => (bakelaw2_FluxCells.l2 k x0 x1 x2 x3 x4 x5 x13 x14 x17 t220 (t220.length : Int) 0))
def bakelaw2_FluxCells.l2 : Nat → List Int → List Int → Int → Int → Int → List Int → List Int → Int → List Int → List Int → Int → Int → Option (Bool)
  | 0, _, _, _, _, _, _, _, _, _, _, _, _ => none
  | k + 1, x0, x1, x2, x3, x4, x5, x13, x14, x17, x93, x94, x95 => if x95 < x94 then (if 0 ≤ x95 then (if x95 < (x93.length : Int) then ((bakeref2_End.f k x1).bind fun t224 => (if (rd x93 x95) > (wrap64 (x2 + t224)) then (if x17.length < 17592186044416 then (bakelaw2_FluxCells.l2 k x0 x1 x2 x3 x4 x5 x13 x14 (x17 ++ [rd x93 x95]) x93 x94 (wrap64 (x95 + 1))) else (none)) else (bakelaw2_FluxCells.l2 k x0 x1 x2 x3 x4 x5 x13 x14 x17 x93 x94 (wrap64 (x95 + 1))))) else (none)) else (none)) else ((bakeref2_Between.f k x17).bind fun bt228 => (bakelaw2_FluxCells.j6 k x0 x3 x4 x5 x13 x14 bt228.1 bt228.2))
end
def bakelaw2_FluxCells.f (k : Nat) (l0 : List Int) (l1 : List Int) (a2 : Int) (a3 : Int) (a4 : Int) (l5 : List Int) : Option (Bool) := (bakelaw2_fluxBegun.f k).bind fun t198 => (if t198 = true then ((flux_Splice.f k l0 l1 a2).bind fun bt199 => ((bakeref2_TrackErr.f k l0).bind fun t203 => (if t203 = 0 then ((bakeref2_TrackErr.f k l1).bind fun t204 => (bakelaw2_FluxCells.j0 k l0 l1 a2 a3 a4 l5 bt199.1 bt199.2 ([] : List Int) t204)) else (bakelaw2_FluxCells.j0 k l0 l1 a2 a3 a4 l5 bt199.1 bt199.2 ([] : List Int) t203)))) else (some false))
theorem bakelaw2_FluxCells.mono_l : ∀ k, (∀ y0 y1 y2 y3 y4 y5 y6 y7 y8 y9, LeO (bakelaw2_FluxCells.j0 k y0 y1 y2 y3 y4 y5 y6 y7 y8 y9) (bakelaw2_FluxCells.j0 (k + 1) y0 y1 y2 y3 y4 y5 y6 y7 y8 y9)) ∧ (∀ y0 y1 y2 y3 y4 y5 y6 y7 y8 y9 y10, LeO (bakelaw2_FluxCells.j1 k y0 y1 y2 y3 y4 y5 y6 y7 y8 y9 y10) (bakelaw2_FluxCells.j1 (k + 1) y0 y1 y2 y3 y4 y5 y6 y7 y8 y9 y10)) ∧ (∀ y0 y1 y2 y3 y4 y5 y6 y7 y8 y9, LeO (bakelaw2_FluxCells.j2 k y0 y1 y2 y3 y4 y5 y6 y7 y8 y9) (bakelaw2_FluxCells.j2 (k + 1) y0 y1 y2 y3 y4 y5 y6 y7 y8 y9)) ∧ (∀ y0 y1 y2 y3 y4 y5 y6 y7, LeO (bakelaw2_FluxCells.j6 k y0 y1 y2 y3 y4 y5 y6 y7) (bakelaw2_FluxCells.j6 (k + 1) y0 y1 y2 y3 y4 y5 y6 y7)) ∧ (∀ y0 y1 y2 y3 y4 y5 y6 y7 y8 y9 y10 y11 y12 y13 y14, LeO (bakelaw2_FluxCells.j7 k y0 y1 y2 y3 y4 y5 y6 y7 y8 y9 y10 y11 y12 y13 y14) (bakelaw2_FluxCells.j7 (k + 1) y0 y1 y2 y3 y4 y5 y6 y7 y8 y9 y10 y11 y12 y13 y14)) ∧ (∀ y0 y1 y2 y3 y4 y5 y6 y7 y8 y9 y10 y11 y12 y13 y14 y15, LeO (bakelaw2_FluxCells.l3 k y0 y1 y2 y3 y4 y5 y6 y7 y8 y9 y10 y11 y12 y13 y14 y15) (bakelaw2_FluxCells.l3 (k + 1) y0 y1 y2 y3 y4 y5 y6 y7 y8 y9 y10 y11 y12 y13 y14 y15)) ∧ (∀ y0 y1 y2 y3 y4 y5 y6 y7 y8 y9 y10 y11, LeO (bakelaw2_FluxCells.l0 k y0 y1 y2 y3 y4 y5 y6 y7 y8 y9 y10 y11) (bakelaw2_FluxCells.l0 (k + 1) y0 y1 y2 y3 y4 y5 y6 y7 y8 y9 y10 y11)) ∧ (∀ y0 y1 y2 y3 y4 y5 y6 y7 y8 y9 y10 y11, LeO (bakelaw2_FluxCells.l1 k y0 y1 y2 y3 y4 y5 y6 y7 y8 y9 y10 y11) (bakelaw2_FluxCells.l1 (k + 1) y0 y1 y2 y3 y4 y5 y6 y7 y8 y9 y10 y11)) ∧ (∀ y0 y1 y2 y3 y4 y5 y6 y7 y8 y9 y10 y11, LeO (bakelaw2_FluxCells.l2 k y0 y1 y2 y3 y4 y5 y6 y7 y8 y9 y10 y11) (bakelaw2_FluxCells.l2 (k + 1) y0 y1 y2 y3 y4 y5 y6 y7 y8 y9 y10 y11))
  | 0 => ⟨fun _ _ _ _ _ _ _ _ _ _ r h => by simp [bakelaw2_FluxCells.j0] at h, fun _ _ _ _ _ _ _ _ _ _ _ r h => by simp [bakelaw2_FluxCells.j1] at h, fun _ _ _ _ _ _ _ _ _ _ r h => by simp [bakelaw2_FluxCells.j2] at h, fun _ _ _ _ _ _ _ _ r h => by simp [bakelaw2_FluxCells.j6] at h, fun _ _ _ _ _ _ _ _ _ _ _ _ _ _ _ r h => by simp [bakelaw2_FluxCells.j7] at h, fun _ _ _ _ _ _ _ _ _ _ _ _ _ _ _ _ r h => by simp [bakelaw2_FluxCells.l3] at h, fun _ _ _ _ _ _ _ _ _ _ _ _ r h => by simp [bakelaw2_FluxCells.l0] at h, fun _ _ _ _ _ _ _ _ _ _ _ _ r h => by simp [bakelaw2_FluxCells.l1] at h, fun _ _ _ _ _ _ _ _ _ _ _ _ r h => by simp [bakelaw2_FluxCells.l2] at h⟩
  | k + 1 => by
    obtain ⟨ih0, ih1, ih2, ih3, ih4, ih5, ih6, ih7, ih8⟩ := bakelaw2_FluxCells.mono_l k
    refine ⟨?_, ?_, ?_, ?_, ?_, ?_, ?_, ?_, ?_⟩
    · intro y0 y1 y2 y3 y4 y5 y6 y7 y8 y9
      unfold bakelaw2_FluxCells.j0
      repeat' first
      | (with_reducible exact ih0 _ _ _ _ _ _ _ _ _ _)
      | (with_reducible exact ih1 _ _ _ _ _ _ _ _ _ _ _)
      | (with_reducible exact ih2 _ _ _ _ _ _ _ _ _ _)
      | (with_reducible exact ih3 _ _ _ _ _ _ _ _)
      | (with_reducible exact ih4 _ _ _ _ _ _ _ _ _ _ _ _ _ _ _)
      | (with_reducible exact ih5 _ _ _ _ _ _ _ _ _ _ _ _ _ _ _ _)
      | (with_reducible exact ih6 _ _ _ _ _ _ _ _ _ _ _ _)
      | (with_reducible exact ih7 _ _ _ _ _ _ _ _ _ _ _ _)
      | (with_reducible exact ih8 _ _ _ _ _ _ _ _ _ _ _ _)
      | (with_reducible exact bakelaw2_fluxBegun.mono _)
      | (with_reducible exact bakeref2_Between.mono _ _)
      | (with_reducible exact bakeref2_Counts.mono _ _ _ _)
      | (with_reducible exact bakeref2_End.mono _ _)
      | (with_reducible exact bakeref2_Times.mono _ _)
      | (with_reducible exact bakeref2_TrackErr.mono _ _)
      | (with_reducible exact flux_Cells.mono _ _ _ _)
      | (with_reducible exact flux_Pulses.mono _ _ _)
      | (with_reducible exact flux_Splice.mono _ _ _ _)
      | (with_reducible exact slices_ContainsFunc_bakelaw2_FluxCells_1.mono _ _)
      | (with_reducible exact slices_Equal_api_Track_int.mono _ _ _)
      | (with_reducible exact slices_Equal_int_int.mono _ _ _)
      | (with_reducible exact LeO.refl _)
      | (with_reducible exact LeO.none _)
      | (with_reducible refine LeO.ite ?_ ?_)
      | (with_reducible refine LeO.bind ?_ (fun _ => ?_))
      | exact ih0 _ _ _ _ _ _ _ _ _ _
      | exact ih1 _ _ _ _ _ _ _ _ _ _ _
      | exact ih2 _ _ _ _ _ _ _ _ _ _
      | exact ih3 _ _ _ _ _ _ _ _
      | exact ih4 _ _ _ _ _ _ _ _ _ _ _ _ _ _ _
      | exact ih5 _ _ _ _ _ _ _ _ _ _ _ _ _ _ _ _
      | exact ih6 _ _ _ _ _ _ _ _ _ _ _ _
      | exact ih7 _ _ _ _ _ _ _ _ _ _ _ _
      | exact ih8 _ _ _ _ _ _ _ _ _ _ _ _
      | exact bakelaw2_fluxBegun.mono _
      | exact bakeref2_Between.mono _ _
      | exact bakeref2_Counts.mono _ _ _ _
      | exact bakeref2_End.mono _ _
      | exact bakeref2_Times.mono _ _
      | exact bakeref2_TrackErr.mono _ _
      | exact flux_Cells.mono _ _ _ _
      | exact flux_Pulses.mono _ _ _
      | exact flux_Splice.mono _ _ _ _
      | exact slices_ContainsFunc_bakelaw2_FluxCells_1.mono _ _
      | exact slices_Equal_api_Track_int.mono _ _ _
      | exact slices_Equal_int_int.mono _ _ _
      | exact LeO.none _
      | refine LeO.ite ?_ ?_
      | refine LeO.bind ?_ (fun _ => ?_)
    · intro y0 y1 y2 y3 y4 y5 y6 y7 y8 y9 y10
      unfold bakelaw2_FluxCells.j1
      repeat' first
      | (with_reducible exact ih0 _ _ _ _ _ _ _ _ _ _)
      | (with_reducible exact ih1 _ _ _ _ _ _ _ _ _ _ _)
      | (with_reducible exact ih2 _ _ _ _ _ _ _ _ _ _)
      | (with_reducible exact ih3 _ _ _ _ _ _ _ _)
      | (with_reducible exact ih4 _ _ _ _ _ _ _ _ _ _ _ _ _ _ _)
      | (with_reducible exact ih5 _ _ _ _ _ _ _ _ _ _ _ _ _ _ _ _)
      | (with_reducible exact ih6 _ _ _ _ _ _ _ _ _ _ _ _)
      | (with_reducible exact ih7 _ _ _ _ _ _ _ _ _ _ _ _)
      | (with_reducible exact ih8 _ _ _ _ _ _ _ _ _ _ _ _)
      | (with_reducible exact bakelaw2_fluxBegun.mono _)
      | (with_reducible exact bakeref2_Between.mono _ _)
      | (with_reducible exact bakeref2_Counts.mono _ _ _ _)
      | (with_reducible exact bakeref2_End.mono _ _)
      | (with_reducible exact bakeref2_Times.mono _ _)
      | (with_reducible exact bakeref2_TrackErr.mono _ _)
      | (with_reducible exact flux_Cells.mono _ _ _ _)
      | (with_reducible exact flux_Pulses.mono _ _ _)
      | (with_reducible exact flux_Splice.mono _ _ _ _)
      | (with_reducible exact slices_ContainsFunc_bakelaw2_FluxCells_1.mono _ _)
      | (with_reducible exact slices_Equal_api_Track_int.mono _ _ _)
      | (with_reducible exact slices_Equal_int_int.mono _ _ _)
      | (with_reducible exact LeO.refl _)
      | (with_reducible exact LeO.none _)
      | (with_reducible refine LeO.ite ?_ ?_)
      | (with_reducible refine LeO.bind ?_ (fun _ => ?_))
      | exact ih0 _ _ _ _ _ _ _ _ _ _
      | exact ih1 _ _ _ _ _ _ _ _ _ _ _
      | exact ih2 _ _ _ _ _ _ _ _ _ _
      | exact ih3 _ _ _ _ _ _ _ _
      | exact ih4 _ _ _ _ _ _ _ _ _ _ _ _ _ _ _
      | exact ih5 _ _ _ _ _ _ _ _ _ _ _ _ _ _ _ _
      | exact ih6 _ _ _ _ _ _ _ _ _ _ _ _
      | exact ih7 _ _ _ _ _ _ _ _ _ _ _ _
      | exact ih8 _ _ _ _ _ _ _ _ _ _ _ _
      | exact bakelaw2_fluxBegun.mono _
      | exact bakeref2_Between.mono _ _
      | exact bakeref2_Counts.mono _ _ _ _
      | exact bakeref2_End.mono _ _
      | exact bakeref2_Times.mono _ _
      | exact bakeref2_TrackErr.mono _ _
      | exact flux_Cells.mono _ _ _ _
      | exact flux_Pulses.mono _ _ _
      | exact flux_Splice.mono _ _ _ _
      | exact slices_ContainsFunc_bakelaw2_FluxCells_1.mono _ _
      | exact slices_Equal_api_Track_int.mono _ _ _
      | exact slices_Equal_int_int.mono _ _ _
      | exact LeO.none _
      | refine LeO.ite ?_ ?_
      | refine LeO.bind ?_ (fun _ => ?_)
    · intro y0 y1 y2 y3 y4 y5 y6 y7 y8 y9
      unfold bakelaw2_FluxCells.j2
      repeat' first
      | (with_reducible exact ih0 _ _ _ _ _ _ _ _ _ _)
      | (with_reducible exact ih1 _ _ _ _ _ _ _ _ _ _ _)
      | (with_reducible exact ih2 _ _ _ _ _ _ _ _ _ _)
      | (with_reducible exact ih3 _ _ _ _ _ _ _ _)
      | (with_reducible exact ih4 _ _ _ _ _ _ _ _ _ _ _ _ _ _ _)
      | (with_reducible exact ih5 _ _ _ _ _ _ _ _ _ _ _ _ _ _ _ _)
      | (with_reducible exact ih6 _ _ _ _ _ _ _ _ _ _ _ _)
      | (with_reducible exact ih7 _ _ _ _ _ _ _ _ _ _ _ _)
      | (with_reducible exact ih8 _ _ _ _ _ _ _ _ _ _ _ _)
      | (with_reducible exact bakelaw2_fluxBegun.mono _)
      | (with_reducible exact bakeref2_Between.mono _ _)
      | (with_reducible exact bakeref2_Counts.mono _ _ _ _)
      | (with_reducible exact bakeref2_End.mono _ _)
      | (with_reducible exact bakeref2_Times.mono _ _)
      | (with_reducible exact bakeref2_TrackErr.mono _ _)
      | (with_reducible exact flux_Cells.mono _ _ _ _)
      | (with_reducible exact flux_Pulses.mono _ _ _)
      | (with_reducible exact flux_Splice.mono _ _ _ _)
      | (with_reducible exact slices_ContainsFunc_bakelaw2_FluxCells_1.mono _ _)
      | (with_reducible exact slices_Equal_api_Track_int.mono _ _ _)
      | (with_reducible exact slices_Equal_int_int.mono _ _ _)
      | (with_reducible exact LeO.refl _)
      | (with_reducible exact LeO.none _)
      | (with_reducible refine LeO.ite ?_ ?_)
      | (with_reducible refine LeO.bind ?_ (fun _ => ?_))
      | exact ih0 _ _ _ _ _ _ _ _ _ _
      | exact ih1 _ _ _ _ _ _ _ _ _ _ _
      | exact ih2 _ _ _ _ _ _ _ _ _ _
      | exact ih3 _ _ _ _ _ _ _ _
      | exact ih4 _ _ _ _ _ _ _ _ _ _ _ _ _ _ _
      | exact ih5 _ _ _ _ _ _ _ _ _ _ _ _ _ _ _ _
      | exact ih6 _ _ _ _ _ _ _ _ _ _ _ _
      | exact ih7 _ _ _ _ _ _ _ _ _ _ _ _
      | exact ih8 _ _ _ _ _ _ _ _ _ _ _ _
      | exact bakelaw2_fluxBegun.mono _
      | exact bakeref2_Between.mono _ _
      | exact bakeref2_Counts.mono _ _ _ _
      | exact bakeref2_End.mono _ _
      | exact bakeref2_Times.mono _ _
      | exact bakeref2_TrackErr.mono _ _
      | exact flux_Cells.mono _ _ _ _
      | exact flux_Pulses.mono _ _ _
      | exact flux_Splice.mono _ _ _ _
      | exact slices_ContainsFunc_bakelaw2_FluxCells_1.mono _ _
      | exact slices_Equal_api_Track_int.mono _ _ _
      | exact slices_Equal_int_int.mono _ _ _
      | exact LeO.none _
      | refine LeO.ite ?_ ?_
      | refine LeO.bind ?_ (fun _ => ?_)
    · intro y0 y1 y2 y3 y4 y5 y6 y7
      unfold bakelaw2_FluxCells.j6
      repeat' first
      | (with_reducible exact ih0 _ _ _ _ _ _ _ _ _ _)
      | (with_reducible exact ih1 _ _ _ _ _ _ _ _ _ _ _)
      | (with_reducible exact ih2 _ _ _ _ _ _ _ _ _ _)
      | (with_reducible exact ih3 _ _ _ _ _ _ _ _)
      | (with_reducible exact ih4 _ _ _ _ _ _ _ _ _ _ _ _ _ _ _)
      | (with_reducible exact ih5 _ _ _ _ _ _ _ _ _ _ _ _ _ _ _ _)
      | (with_reducible exact ih6 _ _ _ _ _ _ _ _ _ _ _ _)
      | (with_reducible exact ih7 _ _ _ _ _ _ _ _ _ _ _ _)
      | (with_reducible exact ih8 _ _ _ _ _ _ _ _ _ _ _ _)
      | (with_reducible exact bakelaw2_fluxBegun.mono _)
      | (with_reducible exact bakeref2_Between.mono _ _)
      | (with_reducible exact bakeref2_Counts.mono _ _ _ _)
      | (with_reducible exact bakeref2_End.mono _ _)
      | (with_reducible exact bakeref2_Times.mono _ _)
      | (with_reducible exact bakeref2_TrackErr.mono _ _)
      | (with_reducible exact flux_Cells.mono _ _ _ _)
      | (with_reducible exact flux_Pulses.mono _ _ _)
      | (with_reducible exact flux_Splice.mono _ _ _ _)
      | (with_reducible exact slices_ContainsFunc_bakelaw2_FluxCells_1.mono _ _)
      | (with_reducible exact slices_Equal_api_Track_int.mono _ _ _)
      | (with_reducible exact slices_Equal_int_int.mono _ _ _)
      | (with_reducible exact LeO.refl _)
      | (with_reducible exact LeO.none _)
      | (with_reducible refine LeO.ite ?_ ?_)
      | (with_reducible refine LeO.bind ?_ (fun _ => ?_))
      | exact ih0 _ _ _ _ _ _ _ _ _ _
      | exact ih1 _ _ _ _ _ _ _ _ _ _ _
      | exact ih2 _ _ _ _ _ _ _ _ _ _
      | exact ih3 _ _ _ _ _ _ _ _
      | exact ih4 _ _ _ _ _ _ _ _ _ _ _ _ _ _ _
      | exact ih5 _ _ _ _ _ _ _ _ _ _ _ _ _ _ _ _
      | exact ih6 _ _ _ _ _ _ _ _ _ _ _ _
      | exact ih7 _ _ _ _ _ _ _ _ _ _ _ _
      | exact ih8 _ _ _ _ _ _ _ _ _ _ _ _
      | exact bakelaw2_fluxBegun.mono _
      | exact bakeref2_Between.mono _ _
      | exact bakeref2_Counts.mono _ _ _ _
      | exact bakeref2_End.mono _ _
      | exact bakeref2_Times.mono _ _
      | exact bakeref2_TrackErr.mono _ _
      | exact flux_Cells.mono _ _ _ _
      | exact flux_Pulses.mono _ _ _
      | exact flux_Splice.mono _ _ _ _
      | exact slices_ContainsFunc_bakelaw2_FluxCells_1.mono _ _
      | exact slices_Equal_api_Track_int.mono _ _ _
      | exact slices_Equal_int_int.mono _ _ _
      | exact LeO.none _
      | refine LeO.ite ?_ ?_
      | refine LeO.bind ?_ (fun _ => ?_)
    · intro y0 y1 y2 y3 y4 y5 y6 y7 y8 y9 y10 y11 y12 y13 y14
      unfold bakelaw2_FluxCells.j7
      repeat' first
      | (with_reducible exact ih0 _ _ _ _ _ _ _ _ _ _)
      | (with_reducible exact ih1 _ _ _ _ _ _ _ _ _ _ _)
      | (with_reducible exact ih2 _ _ _ _ _ _ _ _ _ _)
      | (with_reducible exact ih3 _ _ _ _ _ _ _ _)
      | (with_reducible exact ih4 _ _ _ _ _ _ _ _ _ _ _ _ _ _ _)
      | (with_reducible exact ih5 _ _ _ _ _ _ _ _ _ _ _ _ _ _ _ _)
      | (with_reducible exact ih6 _ _ _ _ _ _ _ _ _ _ _ _)
      | (with_reducible exact ih7 _ _ _ _ _ _ _ _ _ _ _ _)
      | (with_reducible exact ih8 _ _ _ _ _ _ _ _ _ _ _ _)
      | (with_reducible exact bakelaw2_fluxBegun.mono _)
      | (with_reducible exact bakeref2_Between.mono _ _)
      | (with_reducible exact bakeref2_Counts.mono _ _ _ _)
      | (with_reducible exact bakeref2_End.mono _ _)
      | (with_reducible exact bakeref2_Times.mono _ _)
      | (with_reducible exact bakeref2_TrackErr.mono _ _)
      | (with_reducible exact flux_Cells.mono _ _ _ _)
      | (with_reducible exact flux_Pulses.mono _ _ _)
      | (with_reducible exact flux_Splice.mono _ _ _ _)
      | (with_reducible exact slices_ContainsFunc_bakelaw2_FluxCells_1.mono _ _)
      | (with_reducible exact slices_Equal_api_Track_int.mono _ _ _)
      | (with_reducible exact slices_Equal_int_int.mono _ _ _)
      | (with_reducible exact LeO.refl _)
      | (with_reducible exact LeO.none _)
      | (with_reducible refine LeO.ite ?_ ?_)
      | (with_reducible refine LeO.bind ?_ (fun _ => ?_))
      | exact ih0 _ _ _ _ _ _ _ _ _ _
      | exact ih1 _ _ _ _ _ _ _ _ _ _ _
      | exact ih2 _ _ _ _ _ _ _ _ _ _
      | exact ih3 _ _ _ _ _ _ _ _
      | exact ih4 _ _ _ _ _ _ _ _ _ _ _ _ _ _ _
      | exact ih5 _ _ _ _ _ _ _ _ _ _ _ _ _ _ _ _
      | exact ih6 _ _ _ _ _ _ _ _ _ _ _ _
      | exact ih7 _ _ _ _ _ _ _ _ _ _ _ _
      | exact ih8 _ _ _ _ _ _ _ _ _ _ _ _
      | exact bakelaw2_fluxBegun.mono _
      | exact bakeref2_Between.mono _ _
      | exact bakeref2_Counts.mono _ _ _ _
      | exact bakeref2_End.mono _ _
      | exact bakeref2_Times.mono _ _
      | exact bakeref2_TrackErr.mono _ _
      | exact flux_Cells.mono _ _ _ _
      | exact flux_Pulses.mono _ _ _
      | exact flux_Splice.mono _ _ _ _
      | exact slices_ContainsFunc_bakelaw2_FluxCells_1.mono _ _
      | exact slices_Equal_api_Track_int.mono _ _ _
      | exact slices_Equal_int_int.mono _ _ _
      | exact LeO.none _
      | refine LeO.ite ?_ ?_
      | refine LeO.bind ?_ (fun _ => ?_)
    · intro y0 y1 y2 y3 y4 y5 y6 y7 y8 y9 y10 y11 y12 y13 y14 y15
      unfold bakelaw2_FluxCells.l3
      repeat' first
      | (with_reducible exact ih0 _ _ _ _ _ _ _ _ _ _)
      | (with_reducible exact ih1 _ _ _ _ _ _ _ _ _ _ _)
      | (with_reducible exact ih2 _ _ _ _ _ _ _ _ _ _)
      | (with_reducible exact ih3 _ _ _ _ _ _ _ _)
      | (with_reducible exact ih4 _ _ _ _ _ _ _ _ _ _ _ _ _ _ _)
      | (with_reducible exact ih5 _ _ _ _ _ _ _ _ _ _ _ _ _ _ _ _)
      | (with_reducible exact ih6 _ _ _ _ _ _ _ _ _ _ _ _)
      | (with_reducible exact ih7 _ _ _ _ _ _ _ _ _ _ _ _)
      | (with_reducible exact ih8 _ _ _ _ _ _ _ _ _ _ _ _)
      | (with_reducible exact bakelaw2_fluxBegun.mono _)
      | (with_reducible exact bakeref2_Between.mono _ _)
      | (with_reducible exact bakeref2_Counts.mono _ _ _ _)
      | (with_reducible exact bakeref2_End.mono _ _)
      | (with_reducible exact bakeref2_Times.mono _ _)
      | (with_reducible exact bakeref2_TrackErr.mono _ _)
      | (with_reducible exact flux_Cells.mono _ _ _ _)
      | (with_reducible exact flux_Pulses.mono _ _ _)
      | (with_reducible exact flux_Splice.mono _ _ _ _)
      | (with_reducible exact slices_ContainsFunc_bakelaw2_FluxCells_1.mono _ _)
      | (with_reducible exact slices_Equal_api_Track_int.mono _ _ _)
      | (with_reducible exact slices_Equal_int_int.mono _ _ _)
      | (with_reducible exact LeO.refl _)
      | (with_reducible exact LeO.none _)
      | (with_reducible refine LeO.ite ?_ ?_)
      | (with_reducible refine LeO.bind ?_ (fun _ => ?_))
      | exact ih0 _ _ _ _ _ _ _ _ _ _
      | exact ih1 _ _ _ _ _ _ _ _ _ _ _
      | exact ih2 _ _ _ _ _ _ _ _ _ _
      | exact ih3 _ _ _ _ _ _ _ _
      | exact ih4 _ _ _ _ _ _ _ _ _ _ _ _ _ _ _
      | exact ih5 _ _ _ _ _ _ _ _ _ _ _ _ _ _ _ _
      | exact ih6 _ _ _ _ _ _ _ _ _ _ _ _
      | exact ih7 _ _ _ _ _ _ _ _ _ _ _ _
      | exact ih8 _ _ _ _ _ _ _ _ _ _ _ _
      | exact bakelaw2_fluxBegun.mono _
      | exact bakeref2_Between.mono _ _
      | exact bakeref2_Counts.mono _ _ _ _
      | exact bakeref2_End.mono _ _
      | exact bakeref2_Times.mono _ _
      | exact bakeref2_TrackErr.mono _ _
      | exact flux_Cells.mono _ _ _ _
      | exact flux_Pulses.mono _ _ _
      | exact flux_Splice.mono _ _ _ _
      | exact slices_ContainsFunc_bakelaw2_FluxCells_1.mono _ _
      | exact slices_Equal_api_Track_int.mono _ _ _
      | exact slices_Equal_int_int.mono _ _ _
      | exact LeO.none _
      | refine LeO.ite ?_ ?_
      | refine LeO.bind ?_ (fun _ => ?_)
    · intro y0 y1 y2 y3 y4 y5 y6 y7 y8 y9 y10 y11
      unfold bakelaw2_FluxCells.l0
      repeat' first
      | (with_reducible exact ih0 _ _ _ _ _ _ _ _ _ _)
      | (with_reducible exact ih1 _ _ _ _ _ _ _ _ _ _ _)
      | (with_reducible exact ih2 _ _ _ _ _ _ _ _ _ _)
      | (with_reducible exact ih3 _ _ _ _ _ _ _ _)
      | (with_reducible exact ih4 _ _ _ _ _ _ _ _ _ _ _ _ _ _ _)
      | (with_reducible exact ih5 _ _ _ _ _ _ _ _ _ _ _ _ _ _ _ _)
      | (with_reducible exact ih6 _ _ _ _ _ _ _ _ _ _ _ _)
      | (with_reducible exact ih7 _ _ _ _ _ _ _ _ _ _ _ _)
      | (with_reducible exact ih8 _ _ _ _ _ _ _ _ _ _ _ _)
      | (with_reducible exact bakelaw2_fluxBegun.mono _)
      | (with_reducible exact bakeref2_Between.mono _ _)
      | (with_reducible exact bakeref2_Counts.mono _ _ _ _)
      | (with_reducible exact bakeref2_End.mono _ _)
      | (with_reducible exact bakeref2_Times.mono _ _)
      | (with_reducible exact bakeref2_TrackErr.mono _ _)
      | (with_reducible exact flux_Cells.mono _ _ _ _)
      | (with_reducible exact flux_Pulses.mono _ _ _)
      | (with_reducible exact flux_Splice.mono _ _ _ _)
      | (with_reducible exact slices_ContainsFunc_bakelaw2_FluxCells_1.mono _ _)
      | (with_reducible exact slices_Equal_api_Track_int.mono _ _ _)
      | (with_reducible exact slices_Equal_int_int.mono _ _ _)
      | (with_reducible exact LeO.refl _)
      | (with_reducible exact LeO.none _)
      | (with_reducible refine LeO.ite ?_ ?_)
      | (with_reducible refine LeO.bind ?_ (fun _ => ?_))
      | exact ih0 _ _ _ _ _ _ _ _ _ _
      | exact ih1 _ _ _ _ _ _ _ _ _ _ _
      | exact ih2 _ _ _ _ _ _ _ _ _ _
      | exact ih3 _ _ _ _ _ _ _ _
      | exact ih4 _ _ _ _ _ _ _ _ _ _ _ _ _ _ _
      | exact ih5 _ _ _ _ _ _ _ _ _ _ _ _ _ _ _ _
      | exact ih6 _ _ _ _ _ _ _ _ _ _ _ _
      | exact ih7 _ _ _ _ _ _ _ _ _ _ _ _
      | exact ih8 _ _ _ _ _ _ _ _ _ _ _ _
      | exact bakelaw2_fluxBegun.mono _
      | exact bakeref2_Between.mono _ _
      | exact bakeref2_Counts.mono _ _ _ _
      | exact bakeref2_End.mono _ _
      | exact bakeref2_Times.mono _ _
      | exact bakeref2_TrackErr.mono _ _
      | exact flux_Cells.mono _ _ _ _
      | exact flux_Pulses.mono _ _ _
      | exact flux_Splice.mono _ _ _ _
      | exact slices_ContainsFunc_bakelaw2_FluxCells_1.mono _ _
      | exact slices_Equal_api_Track_int.mono _ _ _
      | exact slices_Equal_int_int.mono _ _ _
      | exact LeO.none _
      | refine LeO.ite ?_ ?_
      | refine LeO.bind ?_ (fun _ => ?_)
    · intro y0 y1 y2 y3 y4 y5 y6 y7 y8 y9 y10 y11
      unfold bakelaw2_FluxCells.l1
      repeat' first
      | (with_reducible exact ih0 _ _ _ _ _ _ _ _ _ _)
      | (with_reducible exact ih1 _ _ _ _ _ _ _ _ _ _ _)
      | (with_reducible exact ih2 _ _ _ _ _ _ _ _ _ _)
      | (with_reducible exact ih3 _ _ _ _ _ _ _ _)
      | (with_reducible exact ih4 _ _ _ _ _ _ _ _ _ _ _ _ _ _ _)
      | (with_reducible exact ih5 _ _ _ _ _ _ _ _ _ _ _ _ _ _ _ _)
      | (with_reducible exact ih6 _ _ _ _ _ _ _ _ _ _ _ _)
      | (with_reducible exact ih7 _ _ _ _ _ _ _ _ _ _ _ _)
      | (with_reducible exact ih8 _ _ _ _ _ _ _ _ _ _ _ _)
      | (with_reducible exact bakelaw2_fluxBegun.mono _)
      | (with_reducible exact bakeref2_Between.mono _ _)
      | (with_reducible exact bakeref2_Counts.mono _ _ _ _)
      | (with_reducible exact bakeref2_End.mono _ _)
      | (with_reducible exact bakeref2_Times.mono _ _)
      | (with_reducible exact bakeref2_TrackErr.mono _ _)
      | (with_reducible exact flux_Cells.mono _ _ _ _)
      | (with_reducible exact flux_Pulses.mono _ _ _)
      | (with_reducible exact flux_Splice.mono _ _ _ _)
      | (with_reducible exact slices_ContainsFunc_bakelaw2_FluxCells_1.mono _ _)
      | (with_reducible exact slices_Equal_api_Track_int.mono _ _ _)
      | (with_reducible exact slices_Equal_int_int.mono _ _ _)
      | (with_reducible exact LeO.refl _)
      | (with_reducible exact LeO.none _)
      | (with_reducible refine LeO.ite ?_ ?_)
      | (with_reducible refine LeO.bind ?_ (fun _ => ?_))
      | exact ih0 _ _ _ _ _ _ _ _ _ _
      | exact ih1 _ _ _ _ _ _ _ _ _ _ _
      | exact ih2 _ _ _ _ _ _ _ _ _ _
      | exact ih3 _ _ _ _ _ _ _ _
      | exact ih4 _ _ _ _ _ _ _ _ _ _ _ _ _ _ _
      | exact ih5 _ _ _ _ _ _ _ _ _ _ _ _ _ _ _ _
      | exact ih6 _ _ _ _ _ _ _ _ _ _ _ _
      | exact ih7 _ _ _ _ _ _ _ _ _ _ _ _
      | exact ih8 _ _ _ _ _ _ _ _ _ _ _ _
      | exact bakelaw2_fluxBegun.mono _
      | exact bakeref2_Between.mono _ _
      | exact bakeref2_Counts.mono _ _ _ _
      | exact bakeref2_End.mono _ _
      | exact bakeref2_Times.mono _ _
      | exact bakeref2_TrackErr.mono _ _
      | exact flux_Cells.mono _ _ _ _
      | exact flux_Pulses.mono _ _ _
      | exact flux_Splice.mono _ _ _ _
      | exact slices_ContainsFunc_bakelaw2_FluxCells_1.mono _ _
      | exact slices_Equal_api_Track_int.mono _ _ _
      | exact slices_Equal_int_int.mono _ _ _
      | exact LeO.none _
      | refine LeO.ite ?_ ?_
      | refine LeO.bind ?_ (fun _ => ?_)
    · intro y0 y1 y2 y3 y4 y5 y6 y7 y8 y9 y10 y11
      unfold bakelaw2_FluxCells.l2
      repeat' first
      | (with_reducible exact ih0 _ _ _ _ _ _ _ _ _ _)
      | (with_reducible exact ih1 _ _ _ _ _ _ _ _ _ _ _)
      | (with_reducible exact ih2 _ _ _ _ _ _ _ _ _ _)
      | (with_reducible exact ih3 _ _ _ _ _ _ _ _)
      | (with_reducible exact ih4 _ _ _ _ _ _ _ _ _ _ _ _ _ _ _)
      | (with_reducible exact ih5 _ _ _ _ _ _ _ _ _ _ _ _ _ _ _ _)
      | (with_reducible exact ih6 _ _ _ _ _ _ _ _ _ _ _ _)
      | (with_reducible exact ih7 _ _ _ _ _ _ _ _ _ _ _ _)
      | (with_reducible exact ih8 _ _ _ _ _ _ _ _ _ _ _ _)
      | (with_reducible exact bakelaw2_fluxBegun.mono _)
      | (with_reducible exact bakeref2_Between.mono _ _)
      | (with_reducible exact bakeref2_Counts.mono _ _ _ _)
      | (with_reducible exact bakeref2_End.mono _ _)
      | (with_reducible exact bakeref2_Times.mono _ _)
      | (with_reducible exact bakeref2_TrackErr.mono _ _)
      | (with_reducible exact flux_Cells.mono _ _ _ _)
      | (with_reducible exact flux_Pulses.mono _ _ _)
      | (with_reducible exact flux_Splice.mono _ _ _ _)
      | (with_reducible exact slices_ContainsFunc_bakelaw2_FluxCells_1.mono _ _)
      | (with_reducible exact slices_Equal_api_Track_int.mono _ _ _)
      | (with_reducible exact slices_Equal_int_int.mono _ _ _)
      | (with_reducible exact LeO.refl _)
      | (with_reducible exact LeO.none _)
      | (with_reducible refine LeO.ite ?_ ?_)
      | (with_reducible refine LeO.bind ?_ (fun _ => ?_))
      | exact ih0 _ _ _ _ _ _ _ _ _ _
      | exact ih1 _ _ _ _ _ _ _ _ _ _ _
      | exact ih2 _ _ _ _ _ _ _ _ _ _
      | exact ih3 _ _ _ _ _ _ _ _
      | exact ih4 _ _ _ _ _ _ _ _ _ _ _ _ _ _ _
      | exact ih5 _ _ _ _ _ _ _ _ _ _ _ _ _ _ _ _
      | exact ih6 _ _ _ _ _ _ _ _ _ _ _ _
      | exact ih7 _ _ _ _ _ _ _ _ _ _ _ _
      | exact ih8 _ _ _ _ _ _ _ _ _ _ _ _
      | exact bakelaw2_fluxBegun.mono _
      | exact bakeref2_Between.mono _ _
      | exact bakeref2_Counts.mono _ _ _ _
      | exact bakeref2_End.mono _ _
      | exact bakeref2_Times.mono _ _
      | exact bakeref2_TrackErr.mono _ _
      | exact flux_Cells.mono _ _ _ _
      | exact flux_Pulses.mono _ _ _
      | exact flux_Splice.mono _ _ _ _
      | exact slices_ContainsFunc_bakelaw2_FluxCells_1.mono _ _
      | exact slices_Equal_api_Track_int.mono _ _ _
      | exact slices_Equal_int_int.mono _ _ _
      | exact LeO.none _
      | refine LeO.ite ?_ ?_
      | refine LeO.bind ?_ (fun _ => ?_)
theorem bakelaw2_FluxCells.mono : ∀ a0 a1 a2 a3 a4 a5 k, LeO (bakelaw2_FluxCells.f k a0 a1 a2 a3 a4 a5) (bakelaw2_FluxCells.f (k + 1) a0 a1 a2 a3 a4 a5) := by
  intro a0 a1 a2 a3 a4 a5 k
  obtain ⟨ih0, ih1, ih2, ih3, ih4, ih5, ih6, ih7, ih8⟩ := bakelaw2_FluxCells.mono_l k
  unfold bakelaw2_FluxCells.f
  repeat' first
      | (with_reducible exact ih0 _ _ _ _ _ _ _ _ _ _)
      | (with_reducible exact ih1 _ _ _ _ _ _ _ _ _ _ _)
      | (with_reducible exact ih2 _ _ _ _ _ _ _ _ _ _)
      | (with_reducible exact ih3 _ _ _ _ _ _ _ _)
      | (with_reducible exact ih4 _ _ _ _ _ _ _ _ _ _ _ _ _ _ _)
      | (with_reducible exact ih5 _ _ _ _ _ _ _ _ _ _ _ _ _ _ _ _)
      | (with_reducible exact ih6 _ _ _ _ _ _ _ _ _ _ _ _)
      | (with_reducible exact ih7 _ _ _ _ _ _ _ _ _ _ _ _)
      | (with_reducible exact ih8 _ _ _ _ _ _ _ _ _ _ _ _)
      | (with_reducible exact bakelaw2_fluxBegun.mono _)
      | (with_reducible exact bakeref2_Between.mono _ _)
      | (with_reducible exact bakeref2_Counts.mono _ _ _ _)
      | (with_reducible exact bakeref2_End.mono _ _)
      | (with_reducible exact bakeref2_Times.mono _ _)
      | (with_reducible exact bakeref2_TrackErr.mono _ _)
      | (with_reducible exact flux_Cells.mono _ _ _ _)
      | (with_reducible exact flux_Pulses.mono _ _ _)
      | (with_reducible exact flux_Splice.mono _ _ _ _)
      | (with_reducible exact slices_ContainsFunc_bakelaw2_FluxCells_1.mono _ _)
      | (with_reducible exact slices_Equal_api_Track_int.mono _ _ _)
      | (with_reducible exact slices_Equal_int_int.mono _ _ _)
      | (with_reducible exact LeO.refl _)
      | (with_reducible exact LeO.none _)
      | (with_reducible refine LeO.ite ?_ ?_)
      | (with_reducible refine LeO.bind ?_ (fun _ => ?_))
      | exact ih0 _ _ _ _ _ _ _ _ _ _
      | exact ih1 _ _ _ _ _ _ _ _ _ _ _
      | exact ih2 _ _ _ _ _ _ _ _ _ _
      | exact ih3 _ _ _ _ _ _ _ _
      | exact ih4 _ _ _ _ _ _ _ _ _ _ _ _ _ _ _
      | exact ih5 _ _ _ _ _ _ _ _ _ _ _ _ _ _ _ _
      | exact ih6 _ _ _ _ _ _ _ _ _ _ _ _
      | exact ih7 _ _ _ _ _ _ _ _ _ _ _ _
      | exact ih8 _ _ _ _ _ _ _ _ _ _ _ _
      | exact bakelaw2_fluxBegun.mono _
      | exact bakeref2_Between.mono _ _
      | exact bakeref2_Counts.mono _ _ _ _
      | exact bakeref2_End.mono _ _
      | exact bakeref2_Times.mono _ _
      | exact bakeref2_TrackErr.mono _ _
      | exact flux_Cells.mono _ _ _ _
      | exact flux_Pulses.mono _ _ _
      | exact flux_Splice.mono _ _ _ _
      | exact slices_ContainsFunc_bakelaw2_FluxCells_1.mono _ _
      | exact slices_Equal_api_Track_int.mono _ _ _
      | exact slices_Equal_int_int.mono _ _ _
      | exact LeO.none _
      | refine LeO.ite ?_ ?_
      | refine LeO.bind ?_ (fun _ => ?_)
set_option maxHeartbeats 8000000 in
set_option maxRecDepth 100000 in
theorem bakelaw2_FluxCells.calls (k : Nat) (A0 : Option Addr) (c0 : Nat) (l0 : List Int) (A1 : Option Addr) (c1 : Nat) (l1 : List Int) (a2 : Int) (a3 : Int) (a4 : Int) (A5 : Option Addr) (c5 : Nat) (l5 : List Int) (r : Bool) (w : World) (hr0 : Kd.C (Kd.int .i64) w A0 l0.length l0) (hc0 : l0.length ≤ c0) (hr1 : Kd.C (Kd.int .i64) w A1 l1.length l1) (hc1 : l1.length ≤ c1) (hr5 : Kd.C (Kd.int .i64) w A5 l5.length l5) (hc5 : l5.length ≤ c5) (h : bakelaw2_FluxCells.f k l0 l1 a2 a3 a4 l5 = some r) :
    Calls Try.prog 13 #[.slice A0 l0.length c0, .slice A1 l1.length c1, .int .i64 a2, .int .i64 a3, .int .i64 a4, .slice A5 l5.length c5] w fun e w' => e = .returned (.bool r) ∧ Below w.heap.size w w' := by
  have HR0 := Aside0.mk hr0
  have HC0 := Aside0.mk hc0
  clear hr0 hc0
  have HR1 := Aside0.mk hr1
  have HC1 := Aside0.mk hc1
  clear hr1 hc1
  have HR5 := Aside0.mk hr5
  have HC5 := Aside0.mk hc5
  clear hr5 hc5
  have HB := Aside0.mk (Below.refl w.heap.size w)
  have H : ((bakelaw2_fluxBegun.f k).bind fun t198 => (if t198 = true then ((flux_Splice.f k l0 l1 a2).bind fun bt199 => ((bakeref2_TrackErr.f k l0).bind fun t203 => (if t203 = 0 then ((bakeref2_TrackErr.f k l1).bind fun t204 => (bakelaw2_FluxCells.j0 k l0 l1 a2 a3 a4 l5 bt199.1 bt199.2 ([] : List Int) t204)) else (bakelaw2_FluxCells.j0 k l0 l1 a2 a3 a4 l5 bt199.1 bt199.2 ([] : List Int) t203)))) else (some false))) = some r := h
  clear h
  replace H := Option.bind_eq_some_iff.mp H
  obtain ⟨t198, A70, H⟩ := H
  replace H : (if t198 = true then ((flux_Splice.f k l0 l1 a2).bind fun bt199 => ((bakeref2_TrackErr.f k l0).bind fun t203 => (if t203 = 0 then ((bakeref2_TrackErr.f k l1).bind fun t204 => (bakelaw2_FluxCells.j0 k l0 l1 a2 a3 a4 l5 bt199.1 bt199.2 ([] : List Int) t204)) else (bakelaw2_FluxCells.j0 k l0 l1 a2 a3 a4 l5 bt199.1 bt199.2 ([] : List Int) t203)))) else (some false)) = some r := H
  have A7 := Aside0.mk A70
  clear A70
  by_cases c8 : t198 = true
  · subst c8
    have H1 : ((flux_Splice.f k l0 l1 a2).bind fun bt199 => ((bakeref2_TrackErr.f k l0).bind fun t203 => (if t203 = 0 then ((bakeref2_TrackErr.f k l1).bind fun t204 => (bakelaw2_FluxCells.j0 k l0 l1 a2 a3 a4 l5 bt199.1 bt199.2 ([] : List Int) t204)) else (bakelaw2_FluxCells.j0 k l0 l1 a2 a3 a4 l5 bt199.1 bt199.2 ([] : List Int) t203)))) = some r := by rw [if_pos rfl] at H; exact H
    clear H
    have H := H1
    clear H1
    replace H := Option.bind_eq_some_iff.mp H
    obtain ⟨⟨t199, t200⟩, A90, H⟩ := H
    replace H : ((bakeref2_TrackErr.f k l0).bind fun t203 => (if t203 = 0 then ((bakeref2_TrackErr.f k l1).bind fun t204 => (bakelaw2_FluxCells.j0 k l0 l1 a2 a3 a4 l5 t199 t200 ([] : List Int) t204)) else (bakelaw2_FluxCells.j0 k l0 l1 a2 a3 a4 l5 t199 t200 ([] : List Int) t203))) = some r := H
    have A9 := Aside0.mk A90
    clear A90
    replace H := Option.bind_eq_some_iff.mp H
    obtain ⟨t203, A100, H⟩ := H
    replace H : (if t203 = 0 then ((bakeref2_TrackErr.f k l1).bind fun t204 => (bakelaw2_FluxCells.j0 k l0 l1 a2 a3 a4 l5 t199 t200 ([] : List Int) t204)) else (bakelaw2_FluxCells.j0 k l0 l1 a2 a3 a4 l5 t199 t200 ([] : List Int) t203)) = some r := H
    have A10 := Aside0.mk A100
    clear A100
    have HC11 := Aside0.mk H
    clear H
    go_enter Try.func13, Try.ntmps13
    go_upto_if 46 with (first | ((with_reducible refine gate_callee (f := 30) rfl ?_); refine goesL_ (some 34) rfl rfl Try.func30 (by kernel_rfl) rfl #[] rfl (by (try simp only [List.map_toArray, List.map_cons, List.map_nil]); first | done | rfl | (simp only [List.length_drop, List.length_take]; rfl)) ?_; (with_reducible refine (bakelaw2_fluxBegun.calls k  true _ A7.out).mono ?_); rintro e w12 ⟨rfl, hb⟩; refine ⟨_, rfl, ?_⟩; have n0_ := Aside0.mk (below_step (by repeat (first | (with_reducible first | exact HB.out | apply below_alloc | apply pw_below_drewN | apply below_drew1) | exact HB.out)) hb); clear HB; have HB := n0_; clear n0_; (try clear hb); (try clear hb2); (try clear hk); (try clear hi)) | ((with_reducible refine gate_callee (f := 77) rfl ?_); refine goesL_ (some 40) rfl rfl Try.func77 (by kernel_rfl) rfl #[.slice A0 l0.length c0, .slice A1 l1.length c1, .int .i64 a2] rfl (by (try simp only [List.map_toArray, List.map_cons, List.map_nil]); first | done | rfl | (simp only [List.length_drop, List.length_take]; rfl)) ?_; (with_reducible refine (flux_Splice.calls k _ _ l0 _ _ l1 a2 t199 t200 _ ?side1 ?side2 ?side3 ?side4 A9.out).mono ?_); (case side1 => repeat (first | exact (Kd.C_below HR0.out HB.out) | (with_reducible refine Kd.C_alloc ?_ _) | (with_reducible refine Kd.C_drewN ?_ _) | (with_reducible refine Kd.C_drew ?_))); (case side2 => exact HC0.out); (case side3 => repeat (first | exact (Kd.C_below HR1.out HB.out) | (with_reducible refine Kd.C_alloc ?_ _) | (with_reducible refine Kd.C_drewN ?_ _) | (with_reducible refine Kd.C_drew ?_))); (case side4 => exact HC1.out); rintro e w13 ⟨v201, rfl, ho0, hb⟩; refine ⟨_, rfl, ?_⟩; have n0_ := Aside0.mk (Kd.R_lower ho0 (below_size (by repeat (first | (with_reducible first | exact HB.out | apply below_alloc | apply pw_below_drewN | apply below_drew1) | exact HB.out)))); have n1_ := Aside0.mk (below_step (by repeat (first | (with_reducible first | exact HB.out | apply below_alloc | apply pw_below_drewN | apply below_drew1) | exact HB.out)) hb); clear HB; have HO202 := n0_; have HB := n1_; clear n0_ n1_; (try clear hb); (try clear hb2); (try clear hk); (try clear hi); (try clear ho0)) | ((with_reducible refine gate_callee (f := 32) rfl ?_); refine goesL_ (some 44) rfl rfl Try.func32 (by kernel_rfl) rfl #[.slice A0 l0.length c0] rfl (by (try simp only [List.map_toArray, List.map_cons, List.map_nil]); first | done | rfl | (simp only [List.length_drop, List.length_take]; rfl)) ?_; (with_reducible refine (bakeref2_TrackErr.calls k _ _ l0 t203 _ ?side1 ?side2 A10.out).mono ?_); (case side1 => repeat (first | exact (Kd.C_below HR0.out HB.out) | (with_reducible refine Kd.C_alloc ?_ _) | (with_reducible refine Kd.C_drewN ?_ _) | (with_reducible refine Kd.C_drew ?_))); (case side2 => exact HC0.out); rintro e w' ⟨rfl, ⟨nd, rfl⟩⟩; refine ⟨_, rfl, ?_⟩))
    (try simp only [Act.put, List.setIfInBounds_toArray, List.set_cons_zero, List.set_cons_succ])
    go_cut [16] (fun v16 wc => ∃ (kq : Nat) (x16_10 : Int), v16 = .int .i64 x16_10 ∧ Aside0 (bakelaw2_FluxCells.j0 kq l0 l1 a2 a3 a4 l5 t199 t200 ([] : List Int) x16_10 = some r) ∧ Aside0 (kq ≤ k) ∧ Aside0 (Kd.R (Kd.int .i64) 3 wc w.heap.size (fun k_ => some k_ ≠ ((.slice none 0 0) : Value).ownBlock) v201 t199) ∧ Aside0 (Kd.R (Kd.int .i64) 3 wc w.heap.size (fun k_ => some k_ ≠ (v201 : Value).ownBlock) (.slice none 0 0) ([] : List Int)) ∧ Aside0 (Below w.heap.size w wc))
    case first =>
      have H := HC11.out
      clear HC11
      by_cases c14 : t203 = 0
      · as_aux_lemma =>
          rw [if_pos c14] at H
          have c14b0 : (t203 == 0) = true := beq_iff_eq.mpr c14
          have c14b1 : (t203 != 0) = false := bne_eq_false_iff_eq.mpr c14
          clear c14
          (first | rw [c14b0] | (simp only [i64_w, i32_w]; rw [c14b0]) | skip)
          replace H := Option.bind_eq_some_iff.mp H
          obtain ⟨t204, A150, H⟩ := H
          replace H : (bakelaw2_FluxCells.j0 k l0 l1 a2 a3 a4 l5 t199 t200 ([] : List Int) t204) = some r := H
          have A15 := Aside0.mk A150
          clear A150
          have H' := Aside0.mk H
          clear H
          go_wp2_with (first | ((with_reducible refine gate_callee (f := 32) rfl ?_); refine goesL_ (some 48) rfl rfl Try.func32 (by kernel_rfl) rfl #[.slice A1 l1.length c1] rfl (by (try simp only [List.map_toArray, List.map_cons, List.map_nil]); first | done | rfl | (simp only [List.length_drop, List.length_take]; rfl)) ?_; (with_reducible refine (bakeref2_TrackErr.calls k _ _ l1 t204 _ ?side1 ?side2 A15.out).mono ?_); (case side1 => repeat (first | exact (Kd.C_below HR1.out HB.out) | (with_reducible refine Kd.C_alloc ?_ _) | (with_reducible refine Kd.C_drewN ?_ _) | (with_reducible refine Kd.C_drew ?_))); (case side2 => exact HC1.out); rintro e w' ⟨rfl, ⟨nd, rfl⟩⟩; refine ⟨_, rfl, ?_⟩))
          go_meet
          case rel => exact ⟨_, (t204), (by first | rfl | (simp; done) | (simp [*]; done)), H', ⟨by first | omega | exact Nat.le_refl _⟩, ⟨by (with_reducible repeat (first | apply Kd.R_alloc | apply Kd.R_drewN | apply Kd.R_drew)); exact Kd.R_mono HO202.out (fun _ hk => (by simp [Value.ownBlock]))⟩, ⟨by first | exact Kd.R_nil _ _ _ _ _ | exact Kd.N_nil _ _ _ _ _ | exact Kd.V_nil _ _ _ _ _ | exact Kd.Q_nil _ _ _ _ _ | exact Kd.S_nil _ _ _ _ _⟩, ⟨by repeat (first | (with_reducible first | exact HB.out | apply below_alloc | apply pw_below_drewN | apply below_drew1) | exact HB.out)⟩⟩
      · as_aux_lemma =>
          rw [if_neg c14] at H
          have c14b0 : (t203 == 0) = false := beq_eq_false_iff_ne.mpr c14
          have c14b1 : (t203 != 0) = true := bne_iff_ne.mpr c14
          (first | rw [c14b0] | (simp only [i64_w, i32_w]; rw [c14b0]) | skip)
          have H' := Aside0.mk H
          clear H
          go_wp2
          go_meet
          case rel => exact ⟨_, (t203), (by first | rfl | (simp; done) | (simp [*]; done)), H', ⟨by first | omega | exact Nat.le_refl _⟩, ⟨by (with_reducible repeat (first | apply Kd.R_alloc | apply Kd.R_drewN | apply Kd.R_drew)); exact Kd.R_mono HO202.out (fun _ hk => (by simp [Value.ownBlock]))⟩, ⟨by first | exact Kd.R_nil _ _ _ _ _ | exact Kd.N_nil _ _ _ _ _ | exact Kd.V_nil _ _ _ _ _ | exact Kd.Q_nil _ _ _ _ _ | exact Kd.S_nil _ _ _ _ _⟩, ⟨by repeat (first | (with_reducible first | exact HB.out | apply below_alloc | apply pw_below_drewN | apply below_drew1) | exact HB.out)⟩⟩
    case rest =>
      clear HC11
      try clear c1
      try clear p2
      try clear c3
      try clear c5
      try clear c7
      try clear c8
      try clear c13
      try clear c14
      try clear c14b0
      try clear c14b1
      obtain ⟨kq, x16_10, rfl, HA, HJ10, HO_13, HO_15, HB⟩ := hcut
      cases kq with
      | zero => exact absurd HA.out (by simp [bakelaw2_FluxCells.j0])
      | succ kj10 =>
        have H := HA.out
        clear HA
        simp only [bakelaw2_FluxCells.j0] at H
        have HC16 := Aside0.mk H
        clear H
        go_upto_region 8 with (fail)
        go_cut [60] (fun v60 wc => ∃ (kq : Nat) (x60_15 : Bool), v60 = .bool x60_15 ∧ Aside0 (bakelaw2_FluxCells.j1 kq l0 l1 a2 a3 a4 l5 t199 t200 ([] : List Int) x16_10 x60_15 = some r) ∧ Aside0 (kq ≤ kj10) ∧ Aside0 (Kd.R (Kd.int .i64) 3 wc w.heap.size (fun k_ => some k_ ≠ ((.slice none 0 0) : Value).ownBlock) v201 t199) ∧ Aside0 (Kd.R (Kd.int .i64) 3 wc w.heap.size (fun k_ => some k_ ≠ (v201 : Value).ownBlock) (.slice none 0 0) ([] : List Int)) ∧ Aside0 (Below w.heap.size w wc))
        case first =>
          have H := HC16.out
          clear HC16
          by_cases c17 : x16_10 = 0
          · rw [if_pos c17] at H
            have c17b0 : (x16_10 == 0) = true := beq_iff_eq.mpr c17
            have c17b1 : (x16_10 != 0) = false := bne_eq_false_iff_eq.mpr c17
            clear c17
            (first | rw [c17b0] | (simp only [i64_w, i32_w]; rw [c17b0]) | skip)
            by_cases c18 : a2 < 0
            · as_aux_lemma =>
                rw [if_pos c18] at H
                have c18b0 : decide (a2 < 0) = true := decide_eq_true c18
                clear c18
                have H' := Aside0.mk H
                clear H
                go_wp2
                go_meet
                case rel => exact ⟨_, (true), (by first | rfl | (simp; done) | (simp [*]; done)), H', ⟨by have := HJ10.out; first | omega | exact Nat.le_refl _⟩, ⟨by (with_reducible repeat (first | apply Kd.R_alloc | apply Kd.R_drewN | apply Kd.R_drew)); exact HO_13.out⟩, ⟨by (with_reducible repeat (first | apply Kd.R_alloc | apply Kd.R_drewN | apply Kd.R_drew)); exact HO_15.out⟩, ⟨by repeat (first | (with_reducible first | exact HB.out | apply below_alloc | apply pw_below_drewN | apply below_drew1) | exact HB.out)⟩⟩
            · as_aux_lemma =>
                rw [if_neg c18] at H
                have c18b0 : decide (a2 < 0) = false := decide_eq_false c18
                clear c18
                replace H := Option.bind_eq_some_iff.mp H
                obtain ⟨t205, A190, H⟩ := H
                replace H : (bakelaw2_FluxCells.j1 kj10 l0 l1 a2 a3 a4 l5 t199 t200 ([] : List Int) x16_10 (decide (a2 > t205))) = some r := H
                have A19 := Aside0.mk A190
                clear A190
                have H' := Aside0.mk H
                clear H
                go_wp2_with (first | (go_at_call 37; (with_reducible refine (bakeref2_End.calls kj10 _ _ l0 t205 _ ?side1 ?side2 A19.out).mono ?_); (case side1 => repeat (first | exact (Kd.C_below HR0.out HB.out) | (with_reducible refine Kd.C_alloc ?_ _) | (with_reducible refine Kd.C_drewN ?_ _) | (with_reducible refine Kd.C_drew ?_))); (case side2 => exact HC0.out); rintro e w20 ⟨rfl, hb⟩; have n0_ := Aside0.mk (Kd.R_below (by (with_reducible repeat (first | apply Kd.R_alloc | apply Kd.R_drewN | apply Kd.R_drew)); exact HO_13.out) hb); have n1_ := Aside0.mk (Kd.R_below (by (with_reducible repeat (first | apply Kd.R_alloc | apply Kd.R_drewN | apply Kd.R_drew)); exact HO_15.out) hb); have n2_ := Aside0.mk (below_step (by repeat (first | (with_reducible first | exact HB.out | apply below_alloc | apply pw_below_drewN | apply below_drew1) | exact HB.out)) hb); clear HO_13; clear HO_15; clear HB; have HO_13 := n0_; have HO_15 := n1_; have HB := n2_; clear n0_ n1_ n2_; (try clear hb); (try clear hb2); (try clear hk); (try clear hi)))
                go_meet
                case rel => exact ⟨_, (decide (a2 > t205)), (by first | rfl | (simp; done) | (simp [*]; done)), H', ⟨by have := HJ10.out; first | omega | exact Nat.le_refl _⟩, ⟨by (with_reducible repeat (first | apply Kd.R_alloc | apply Kd.R_drewN | apply Kd.R_drew)); exact HO_13.out⟩, ⟨by (with_reducible repeat (first | apply Kd.R_alloc | apply Kd.R_drewN | apply Kd.R_drew)); exact HO_15.out⟩, ⟨by repeat (first | (with_reducible first | exact HB.out | apply below_alloc | apply pw_below_drewN | apply below_drew1) | exact HB.out)⟩⟩
          · as_aux_lemma =>
              rw [if_neg c17] at H
              have c17b0 : (x16_10 == 0) = false := beq_eq_false_iff_ne.mpr c17
              have c17b1 : (x16_10 != 0) = true := bne_iff_ne.mpr c17
              (first | rw [c17b0] | (simp only [i64_w, i32_w]; rw [c17b0]) | skip)
              have H' := Aside0.mk H
              clear H
              go_wp2
              go_meet
              case rel => exact ⟨_, (false), (by first | rfl | (simp; done) | (simp [*]; done)), H', ⟨by have := HJ10.out; first | omega | exact Nat.le_refl _⟩, ⟨by (with_reducible repeat (first | apply Kd.R_alloc | apply Kd.R_drewN | apply Kd.R_drew)); exact HO_13.out⟩, ⟨by (with_reducible repeat (first | apply Kd.R_alloc | apply Kd.R_drewN | apply Kd.R_drew)); exact HO_15.out⟩, ⟨by repeat (first | (with_reducible first | exact HB.out | apply below_alloc | apply pw_below_drewN | apply below_drew1) | exact HB.out)⟩⟩
        case rest =>
          clear HC16
          try clear c1
          try clear p2
          try clear c3
          try clear c5
          try clear c7
          try clear c8
          try clear c13
          try clear c14
          try clear c14b0
          try clear c14b1
          try clear c17
          try clear c17b0
          try clear c17b1
          try clear c18
          try clear c18b0
          try clear p2
          obtain ⟨kq, x60_15, rfl, HA, HJ15, HO_13, HO_15, HB⟩ := hcut
          cases kq with
          | zero => exact absurd HA.out (by simp [bakelaw2_FluxCells.j1])
          | succ kj15 =>
            have H := HA.out
            clear HA
            simp only [bakelaw2_FluxCells.j1] at H
            have HC21 := Aside0.mk H
            clear H
            go_upto_if 60 with (fail)
            go_cut [16] (fun v16 wc => ∃ (kq : Nat) (x16_20 : Int), v16 = .int .i64 x16_20 ∧ Aside0 (bakelaw2_FluxCells.j2 kq l0 l1 a2 a3 a4 l5 t199 t200 ([] : List Int) x16_20 = some r) ∧ Aside0 (kq ≤ kj15) ∧ Aside0 (Kd.R (Kd.int .i64) 3 wc w.heap.size (fun k_ => some k_ ≠ ((.slice none 0 0) : Value).ownBlock) v201 t199) ∧ Aside0 (Kd.R (Kd.int .i64) 3 wc w.heap.size (fun k_ => some k_ ≠ (v201 : Value).ownBlock) (.slice none 0 0) ([] : List Int)) ∧ Aside0 (Below w.heap.size w wc))
            case first =>
              have H := HC21.out
              clear HC21
              by_cases c22 : x60_15 = true
              · as_aux_lemma =>
                  subst c22
                  have H1 : (bakelaw2_FluxCells.j2 kj15 l0 l1 a2 a3 a4 l5 t199 t200 ([] : List Int) 1) = some r := by rw [if_pos rfl] at H; exact H
                  clear H
                  have H := H1
                  clear H1
                  have H' := Aside0.mk H
                  clear H
                  go_wp2
                  go_meet
                  case rel => exact ⟨_, (1), (by first | rfl | (simp; done) | (simp [*]; done)), H', ⟨by have := HJ10.out; have := HJ15.out; first | omega | exact Nat.le_refl _⟩, ⟨by (with_reducible repeat (first | apply Kd.R_alloc | apply Kd.R_drewN | apply Kd.R_drew)); exact HO_13.out⟩, ⟨by (with_reducible repeat (first | apply Kd.R_alloc | apply Kd.R_drewN | apply Kd.R_drew)); exact HO_15.out⟩, ⟨by repeat (first | (with_reducible first | exact HB.out | apply below_alloc | apply pw_below_drewN | apply below_drew1) | exact HB.out)⟩⟩
              · as_aux_lemma =>
                  replace c22 := Bool.eq_false_iff.mpr c22
                  subst c22
                  have H1 : (bakelaw2_FluxCells.j2 kj15 l0 l1 a2 a3 a4 l5 t199 t200 ([] : List Int) x16_10) = some r := by rw [if_neg (show ¬ (false = true) by decide)] at H; exact H
                  clear H
                  have H := H1
                  clear H1
                  have H' := Aside0.mk H
                  clear H
                  go_wp2
                  go_meet
                  case rel => exact ⟨_, (x16_10), (by first | rfl | (simp; done) | (simp [*]; done)), H', ⟨by have := HJ10.out; have := HJ15.out; first | omega | exact Nat.le_refl _⟩, ⟨by (with_reducible repeat (first | apply Kd.R_alloc | apply Kd.R_drewN | apply Kd.R_drew)); exact HO_13.out⟩, ⟨by (with_reducible repeat (first | apply Kd.R_alloc | apply Kd.R_drewN | apply Kd.R_drew)); exact HO_15.out⟩, ⟨by repeat (first | (with_reducible first | exact HB.out | apply below_alloc | apply pw_below_drewN | apply below_drew1) | exact HB.out)⟩⟩
            case rest =>
              clear HC21
              try clear c1
              try clear c2
              try clear p2
              try clear c3
              try clear c5
              try clear c7
              try clear c8
              try clear c13
              try clear c14
              try clear c14b0
              try clear c14b1
              try clear c17
              try clear c17b0
              try clear c17b1
              try clear c18
              try clear c18b0
              try clear c22
              try clear p2
              obtain ⟨kq, x16_20, rfl, HA, HJ20, HO_13, HO_15, HB⟩ := hcut
              cases kq with
              | zero => exact absurd HA.out (by simp [bakelaw2_FluxCells.j2])
              | succ kj20 =>
                have H := HA.out
                clear HA
                simp only [bakelaw2_FluxCells.j2] at H
                have HC23 := Aside0.mk H
                clear H
                go_upto_if 62 with (fail)
                go_cut [15, 16] (fun v15 v16 wc => ∃ (kq : Nat) (x15_22 : List Int) (x16_22 : Int), v16 = .int .i64 x16_22 ∧ Aside0 (bakelaw2_FluxCells.j6 kq l0 a3 a4 l5 t199 t200 x15_22 x16_22 = some r) ∧ Aside0 (kq ≤ kj20) ∧ Aside0 (Kd.R (Kd.int .i64) 3 wc w.heap.size (fun k_ => some k_ ≠ (v15 : Value).ownBlock) v201 t199) ∧ Aside0 (Kd.R (Kd.int .i64) 3 wc w.heap.size (fun k_ => some k_ ≠ (v201 : Value).ownBlock) v15 x15_22) ∧ Aside0 (Below w.heap.size w wc))
                case first =>
                  have H := HC23.out
                  clear HC23
                  by_cases c24 : x16_20 = 0
                  · rw [if_pos c24] at H
                    have c24b0 : (x16_20 == 0) = true := beq_iff_eq.mpr c24
                    have c24b1 : (x16_20 != 0) = false := bne_eq_false_iff_eq.mpr c24
                    clear c24
                    (first | rw [c24b0] | (simp only [i64_w, i32_w]; rw [c24b0]) | skip)
                    replace H := Option.bind_eq_some_iff.mp H
                    obtain ⟨t206, A250, H⟩ := H
                    replace H : (bakelaw2_FluxCells.l0 kj20 l0 l1 a2 a3 a4 l5 t199 t200 ([] : List Int) t206 (t206.length : Int) 0) = some r := H
                    have A25 := Aside0.mk A250
                    clear A250
                    have H' := Aside0.mk H
                    clear H
                    go_wp2_with (first | ((with_reducible refine gate_callee (f := 36) rfl ?_); refine goesL_ (some 64) rfl rfl Try.func36 (by kernel_rfl) rfl #[.slice A0 l0.length c0] rfl (by (try simp only [List.map_toArray, List.map_cons, List.map_nil]); first | done | rfl | (simp only [List.length_drop, List.length_take]; rfl)) ?_; (with_reducible refine (bakeref2_Times.calls kj20 _ _ l0 t206 _ ?side1 ?side2 A25.out).mono ?_); (case side1 => repeat (first | exact (Kd.C_below HR0.out HB.out) | (with_reducible refine Kd.C_alloc ?_ _) | (with_reducible refine Kd.C_drewN ?_ _) | (with_reducible refine Kd.C_drew ?_))); (case side2 => exact HC0.out); rintro e w26 ⟨v207, rfl, ho0, hb⟩; refine ⟨_, rfl, ?_⟩; have n0_ := Aside0.mk (Kd.R_elder' (by (with_reducible repeat (first | apply Kd.R_alloc | apply Kd.R_drewN | apply Kd.R_drew)); exact HO_13.out) (Kd.R_base ho0) hb); have n1_ := Aside0.mk (Kd.R_elder' (by (with_reducible repeat (first | apply Kd.R_alloc | apply Kd.R_drewN | apply Kd.R_drew)); exact HO_15.out) (Kd.R_base ho0) hb); have n2_ := Aside0.mk (Kd.R_lower (Kd.R_new' (Kd.R_new' ho0 (Kd.R_lt (by (with_reducible repeat (first | apply Kd.R_alloc | apply Kd.R_drewN | apply Kd.R_drew)); exact HO_13.out))) (Kd.R_lt (by (with_reducible repeat (first | apply Kd.R_alloc | apply Kd.R_drewN | apply Kd.R_drew)); exact HO_15.out))) (below_size (by repeat (first | (with_reducible first | exact HB.out | apply below_alloc | apply pw_below_drewN | apply below_drew1) | exact HB.out)))); have n3_ := Aside0.mk (below_step (by repeat (first | (with_reducible first | exact HB.out | apply below_alloc | apply pw_below_drewN | apply below_drew1) | exact HB.out)) hb); clear HO_13; clear HO_15; clear HB; have HO_13 := n0_; have HO_15 := n1_; have HO208 := n2_; have HB := n3_; clear n0_ n1_ n2_ n3_; (try clear hb); (try clear hb2); (try clear hk); (try clear hi); (try clear ho0); obtain ⟨Ao27, co27, eo27⟩ := Kd.R_slice HO208.out; subst eo27))
                    go_loopg [17, 66] kj20 (fun kq v17 v66 w' => ∃ (x17_4 : List Int) (x66_4 : Int), v66 = .int .i64 x66_4 ∧ Aside0 (bakelaw2_FluxCells.l0 kq l0 l1 a2 a3 a4 l5 t199 t200 x17_4 t206 (t206.length : Int) x66_4 = some r) ∧ Aside0 (kq ≤ kj20) ∧ Aside0 (Kd.R (Kd.int .i64) 3 w' w.heap.size (fun k_ => some k_ ≠ (v17 : Value).ownBlock ∧ some k_ ≠ ((.slice Ao27 t206.length co27) : Value).ownBlock) v201 t199) ∧ Aside0 (Kd.R (Kd.int .i64) 3 w' w.heap.size (fun k_ => some k_ ≠ (v201 : Value).ownBlock ∧ some k_ ≠ ((.slice Ao27 t206.length co27) : Value).ownBlock) v17 x17_4) ∧ Aside0 (Kd.R (Kd.int .i64) 3 w' w.heap.size (fun k_ => some k_ ≠ (v201 : Value).ownBlock ∧ some k_ ≠ (v17 : Value).ownBlock) (.slice Ao27 t206.length co27) t206) ∧ Aside0 (Below w.heap.size w w'))
                    case atStart => exact ⟨(([] : List Int)), (0), (by first | rfl | (simp; done) | (simp [*]; done)), H', ⟨Nat.le_refl _⟩, ⟨by (with_reducible repeat (first | apply Kd.R_alloc | apply Kd.R_drewN | apply Kd.R_drew)); exact Kd.R_mono HO_13.out (fun _ hk => ⟨(by simp [Value.ownBlock]), hk.2⟩)⟩, ⟨by first | exact Kd.R_nil _ _ _ _ _ | exact Kd.N_nil _ _ _ _ _ | exact Kd.V_nil _ _ _ _ _ | exact Kd.Q_nil _ _ _ _ _ | exact Kd.S_nil _ _ _ _ _⟩, ⟨by (with_reducible repeat (first | apply Kd.R_alloc | apply Kd.R_drewN | apply Kd.R_drew)); exact Kd.R_mono HO208.out (fun _ hk => ⟨hk.1.2, (by simp [Value.ownBlock])⟩)⟩, ⟨by repeat (first | (with_reducible first | exact HB.out | apply below_alloc | apply pw_below_drewN | apply below_drew1) | exact HB.out)⟩⟩
                    case round =>
                      clear H'
                      try clear c1
                      try clear c2
                      try clear p2
                      try clear c3
                      try clear c5
                      try clear c7
                      try clear c8
                      try clear c13
                      try clear c14
                      try clear c14b0
                      try clear c14b1
                      try clear c17
                      try clear c17b0
                      try clear c17b1
                      try clear c18
                      try clear c18b0
                      try clear c22
                      try clear c24
                      try clear c24b0
                      try clear c24b1
                      try clear p2
                      obtain ⟨x17_4, x66_4, rfl, HA, HK4, HO_13, HO_17, HO_64, HB⟩ := hrel
                      cases gk with
                      | zero => exact absurd HA.out (by simp [bakelaw2_FluxCells.l0])
                      | succ k4 =>
                        have H := HA.out
                        clear HA
                        simp only [bakelaw2_FluxCells.l0] at H
                        by_cases c28 : x66_4 < (t206.length : Int)
                        · rw [if_pos c28] at H
                          have c28b0 : decide (x66_4 < (t206.length : Int)) = true := decide_eq_true c28
                          clear c28
                          by_cases c29 : 0 ≤ x66_4
                          · rw [if_pos c29] at H
                            have c29b0 : decide (0 ≤ x66_4) = true := decide_eq_true c29
                            clear c29
                            by_cases c30 : x66_4 < (t206.length : Int)
                            · rw [if_pos c30] at H
                              have c30b0 : decide (x66_4 < (t206.length : Int)) = true := decide_eq_true c30
                              clear c30
                              by_cases c31 : (rd t206 x66_4) ≤ a2
                              · rw [if_pos c31] at H
                                have c31b0 : decide ((rd t206 x66_4) ≤ a2) = true := decide_eq_true c31
                                clear c31
                                by_cases c32 : x17_4.length < 17592186044416
                                · as_aux_lemma =>
                                    rw [if_pos c32] at H
                                    have LMc32 := Aside0.mk c32
                                    clear c32
                                    obtain ⟨y210, hy210⟩ : ∃ y_ : List Int, y_ = (x17_4 ++ [rd t206 x66_4]) := ⟨_, rfl⟩
                                    replace H : (bakelaw2_FluxCells.l0 k4 l0 l1 a2 a3 a4 l5 t199 t200 y210 t206 (t206.length : Int) (wrap64 (x66_4 + 1))) = some r := by first | (rw [hy210]; with_reducible exact H) | (have H2_ := (Option.bind_some _ _).symm.trans H; rw [hy210]; with_reducible exact H2_) | (have H2_ := (Option.bind_some _ _).symm.trans H; with_reducible exact H2_) | with_reducible exact H | (rw [hy210]; exact H) | exact H
                                    have Ny210 := Aside0.mk hy210
                                    clear hy210
                                    have H' := Aside0.mk H
                                    clear H
                                    have p209 : 0 ≤ (x66_4 : Int) := of_decide_eq_true (by first | (with_reducible assumption) | assumption)
                                    have q209 : x66_4 < (t206.length : Int) := of_decide_eq_true (by first | (with_reducible assumption) | assumption)
                                    obtain ⟨ad209, e209, hx209_0⟩ := Kd.at_int (Kd.R_reads' HO_64.out).2.2 x66_4 p209 q209
                                    cases e209
                                    replace p209 := eq_true p209
                                    replace q209 := eq_true q209
                                    go_wp2_with (first | ((with_reducible refine gate_builtin (b := .append) (xs := #[.tmp 73, .tmp 75]) rfl ?_); at_builtin; refine Kd.R_append (Kd.int .i64) (w0 := w) w.heap.size rfl (.tmp 73) (.tmp 75) 43 3 (.int .i64 0) 8 rfl Try.underlying43 info3 rfl (by decide) (by omega) u17 x17_4 (rd t206 x66_4) [.int .i64 (rd t206 x66_4)] (fun k_ => some k_ ≠ (v201 : Value).ownBlock ∧ some k_ ≠ (.slice (some ad209) t206.length co27 : Value).ownBlock) (fun _ => False) rfl rfl ?aP (fun _ hk => hk.elim) ?aF ?aO ?aB ?aS ?aL ?_; (case aP => exact rfl); (case aB => exact (by repeat (first | (with_reducible first | exact HB.out | apply below_alloc | apply pw_below_drewN | apply below_drew1) | exact HB.out))); (case aF => exact (fun k_ hk => ⟨Kd.fresh' (Kd.R_lt (by (with_reducible repeat (first | apply Kd.R_alloc | apply Kd.R_drewN | apply Kd.R_drew)); exact HO_13.out)) k_ hk, Kd.fresh' (Kd.R_lt (by (with_reducible repeat (first | apply Kd.R_alloc | apply Kd.R_drewN | apply Kd.R_drew)); exact HO_64.out)) k_ hk⟩)); (case aO => exact (by (with_reducible repeat (first | apply Kd.R_alloc | apply Kd.R_drewN | apply Kd.R_drew)); exact HO_17.out)); (case aS => exact (below_size (by repeat (first | (with_reducible first | exact HB.out | apply below_alloc | apply pw_below_drewN | apply below_drew1) | exact HB.out)))); (case aL => have := LMc32.out; omega); intro v211 w33 ho hb hg hat; rw [← Ny210.out] at ho; have n0_ := Aside0.mk (Kd.R_after (ok := (fun k_ => some k_ ≠ (.slice (some ad209) t206.length co27 : Value).ownBlock)) (by (with_reducible repeat (first | apply Kd.R_alloc | apply Kd.R_drewN | apply Kd.R_drew)); exact Kd.R_mono HO_13.out (fun _ hk => ⟨hk.2, hk.1⟩)) hg hat); have n1_ := Aside0.mk (Kd.R_after (ok := (fun k_ => some k_ ≠ (v201 : Value).ownBlock)) (by (with_reducible repeat (first | apply Kd.R_alloc | apply Kd.R_drewN | apply Kd.R_drew)); exact HO_64.out) hg hat); have n2_ := Aside0.mk (hb); have n3_ := Aside0.mk (ho); clear HO_13; clear HO_64; clear HB; clear HO_17; have HO_13 := n0_; have HO_64 := n1_; have HB := n2_; have HO212 := n3_; clear n0_ n1_ n2_ n3_; clear ho hb hg hat))
                                    go_roundg k4
                                    case measure => have := HJ10.out; have := HJ15.out; have := HJ20.out; have := HK4.out; omega
                                    case rel => exact ⟨(y210), (wrap64 (x66_4 + 1)), (by first | rfl | (simp; done) | (simp [*]; done)), H', ⟨by have := HJ10.out; have := HJ15.out; have := HJ20.out; have := HK4.out; omega⟩, ⟨by (with_reducible repeat (first | apply Kd.R_alloc | apply Kd.R_drewN | apply Kd.R_drew)); exact Kd.R_mono HO_13.out (fun _ hk => ⟨hk.2, hk.1⟩)⟩, ⟨by (with_reducible repeat (first | apply Kd.R_alloc | apply Kd.R_drewN | apply Kd.R_drew)); exact HO212.out⟩, ⟨by (with_reducible repeat (first | apply Kd.R_alloc | apply Kd.R_drewN | apply Kd.R_drew)); exact HO_64.out⟩, ⟨by repeat (first | (with_reducible first | exact HB.out | apply below_alloc | apply pw_below_drewN | apply below_drew1) | exact HB.out)⟩⟩
                                · rw [if_neg c32] at H
                                  exact absurd H (by simp)
                              · as_aux_lemma =>
                                  rw [if_neg c31] at H
                                  have c31b0 : decide ((rd t206 x66_4) ≤ a2) = false := decide_eq_false c31
                                  clear c31
                                  have H' := Aside0.mk H
                                  clear H
                                  have p209 : 0 ≤ (x66_4 : Int) := of_decide_eq_true (by first | (with_reducible assumption) | assumption)
                                  have q209 : x66_4 < (t206.length : Int) := of_decide_eq_true (by first | (with_reducible assumption) | assumption)
                                  obtain ⟨ad209, e209, hx209_0⟩ := Kd.at_int (Kd.R_reads' HO_64.out).2.2 x66_4 p209 q209
                                  cases e209
                                  replace p209 := eq_true p209
                                  replace q209 := eq_true q209
                                  go_wp2
                                  go_roundg k4
                                  case measure => have := HJ10.out; have := HJ15.out; have := HJ20.out; have := HK4.out; omega
                                  case rel => exact ⟨(x17_4), (wrap64 (x66_4 + 1)), (by first | rfl | (simp; done) | (simp [*]; done)), H', ⟨by have := HJ10.out; have := HJ15.out; have := HJ20.out; have := HK4.out; omega⟩, ⟨by (with_reducible repeat (first | apply Kd.R_alloc | apply Kd.R_drewN | apply Kd.R_drew)); exact HO_13.out⟩, ⟨by (with_reducible repeat (first | apply Kd.R_alloc | apply Kd.R_drewN | apply Kd.R_drew)); exact HO_17.out⟩, ⟨by (with_reducible repeat (first | apply Kd.R_alloc | apply Kd.R_drewN | apply Kd.R_drew)); exact HO_64.out⟩, ⟨by repeat (first | (with_reducible first | exact HB.out | apply below_alloc | apply pw_below_drewN | apply below_drew1) | exact HB.out)⟩⟩
                            · rw [if_neg c30] at H
                              exact absurd H (by simp)
                          · rw [if_neg c29] at H
                            exact absurd H (by simp)
                        · rw [if_neg c28] at H
                          have c28b0 : decide (x66_4 < (t206.length : Int)) = false := decide_eq_false c28
                          clear c28
                          replace H := Option.bind_eq_some_iff.mp H
                          obtain ⟨t213, A340, H⟩ := H
                          replace H : (bakelaw2_FluxCells.l1 k4 l0 l1 a2 a3 a4 l5 t199 t200 x17_4 t213 (t213.length : Int) 0) = some r := H
                          have A34 := Aside0.mk A340
                          clear A340
                          have H' := Aside0.mk H
                          clear H
                          go_wp2_with (first | ((with_reducible refine gate_callee (f := 36) rfl ?_); refine goesL_ (some 79) rfl rfl Try.func36 (by kernel_rfl) rfl #[.slice A1 l1.length c1] rfl (by (try simp only [List.map_toArray, List.map_cons, List.map_nil]); first | done | rfl | (simp only [List.length_drop, List.length_take]; rfl)) ?_; (with_reducible refine (bakeref2_Times.calls k4 _ _ l1 t213 _ ?side1 ?side2 A34.out).mono ?_); (case side1 => repeat (first | exact (Kd.C_below HR1.out HB.out) | (with_reducible refine Kd.C_alloc ?_ _) | (with_reducible refine Kd.C_drewN ?_ _) | (with_reducible refine Kd.C_drew ?_))); (case side2 => exact HC1.out); rintro e w35 ⟨v214, rfl, ho0, hb⟩; refine ⟨_, rfl, ?_⟩; have n0_ := Aside0.mk (Kd.R_elder' (by (with_reducible repeat (first | apply Kd.R_alloc | apply Kd.R_drewN | apply Kd.R_drew)); exact HO_13.out) (Kd.R_base ho0) hb); have n1_ := Aside0.mk (Kd.R_elder' (by (with_reducible repeat (first | apply Kd.R_alloc | apply Kd.R_drewN | apply Kd.R_drew)); exact HO_17.out) (Kd.R_base ho0) hb); have n2_ := Aside0.mk (Kd.R_elder' (by (with_reducible repeat (first | apply Kd.R_alloc | apply Kd.R_drewN | apply Kd.R_drew)); exact HO_64.out) (Kd.R_base ho0) hb); have n3_ := Aside0.mk (Kd.R_lower (Kd.R_new' (Kd.R_new' (Kd.R_new' ho0 (Kd.R_lt (by (with_reducible repeat (first | apply Kd.R_alloc | apply Kd.R_drewN | apply Kd.R_drew)); exact HO_13.out))) (Kd.R_lt (by (with_reducible repeat (first | apply Kd.R_alloc | apply Kd.R_drewN | apply Kd.R_drew)); exact HO_17.out))) (Kd.R_lt (by (with_reducible repeat (first | apply Kd.R_alloc | apply Kd.R_drewN | apply Kd.R_drew)); exact HO_64.out))) (below_size (by repeat (first | (with_reducible first | exact HB.out | apply below_alloc | apply pw_below_drewN | apply below_drew1) | exact HB.out)))); have n4_ := Aside0.mk (below_step (by repeat (first | (with_reducible first | exact HB.out | apply below_alloc | apply pw_below_drewN | apply below_drew1) | exact HB.out)) hb); clear HO_13; clear HO_17; clear HO_64; clear HB; have HO_13 := n0_; have HO_17 := n1_; have HO_64 := n2_; have HO215 := n3_; have HB := n4_; clear n0_ n1_ n2_ n3_ n4_; (try clear hb); (try clear hb2); (try clear hk); (try clear hi); (try clear ho0); obtain ⟨Ao36, co36, eo36⟩ := Kd.R_slice HO215.out; subst eo36))
                          go_loopg [17, 81] k4 (fun kq v17 v81 w' => ∃ (x17_5 : List Int) (x81_5 : Int), v81 = .int .i64 x81_5 ∧ Aside0 (bakelaw2_FluxCells.l1 kq l0 l1 a2 a3 a4 l5 t199 t200 x17_5 t213 (t213.length : Int) x81_5 = some r) ∧ Aside0 (kq ≤ k4) ∧ Aside0 (Kd.R (Kd.int .i64) 3 w' w.heap.size (fun k_ => some k_ ≠ (v17 : Value).ownBlock ∧ some k_ ≠ ((.slice Ao36 t213.length co36) : Value).ownBlock) v201 t199) ∧ Aside0 (Kd.R (Kd.int .i64) 3 w' w.heap.size (fun k_ => some k_ ≠ (v201 : Value).ownBlock ∧ some k_ ≠ ((.slice Ao36 t213.length co36) : Value).ownBlock) v17 x17_5) ∧ Aside0 (Kd.R (Kd.int .i64) 3 w' w.heap.size (fun k_ => some k_ ≠ (v201 : Value).ownBlock ∧ some k_ ≠ (v17 : Value).ownBlock) (.slice Ao36 t213.length co36) t213) ∧ Aside0 (Below w.heap.size w w'))
                          case atStart => exact ⟨(x17_4), (0), (by first | rfl | (simp; done) | (simp [*]; done)), H', ⟨Nat.le_refl _⟩, ⟨by (with_reducible repeat (first | apply Kd.R_alloc | apply Kd.R_drewN | apply Kd.R_drew)); exact Kd.R_mono HO_13.out (fun _ hk => ⟨hk.1.1, hk.2⟩)⟩, ⟨by (with_reducible repeat (first | apply Kd.R_alloc | apply Kd.R_drewN | apply Kd.R_drew)); exact Kd.R_mono HO_17.out (fun _ hk => ⟨hk.1.1, hk.2⟩)⟩, ⟨by (with_reducible repeat (first | apply Kd.R_alloc | apply Kd.R_drewN | apply Kd.R_drew)); exact Kd.R_mono HO215.out (fun _ hk => ⟨hk.1.1.2, hk.1.2⟩)⟩, ⟨by repeat (first | (with_reducible first | exact HB.out | apply below_alloc | apply pw_below_drewN | apply below_drew1) | exact HB.out)⟩⟩
                          case round =>
                            clear H'
                            try clear c1
                            try clear c2
                            try clear p2
                            try clear q2
                            try clear hx2
                            try clear c3
                            try clear c5
                            try clear p6
                            try clear c7
                            try clear c8
                            try clear c13
                            try clear c14
                            try clear c14b0
                            try clear c14b1
                            try clear c17
                            try clear c17b0
                            try clear c17b1
                            try clear c18
                            try clear c18b0
                            try clear p20
                            try clear q20
                            try clear hx20
                            try clear c22
                            try clear c24
                            try clear c24b0
                            try clear c24b1
                            try clear c28
                            try clear c28b0
                            try clear c29
                            try clear c29b0
                            try clear c30
                            try clear c30b0
                            try clear c31
                            try clear c31b0
                            try clear c32
                            try clear c36
                            try clear hx209_0
                            try clear p2
                            try clear p209
                            try clear q209
                            obtain ⟨x17_5, x81_5, rfl, HA, HK5, HO_13, HO_17, HO_79, HB⟩ := hrel
                            cases gk with
                            | zero => exact absurd HA.out (by simp [bakelaw2_FluxCells.l1])
                            | succ k5 =>
                              have H := HA.out
                              clear HA
                              simp only [bakelaw2_FluxCells.l1] at H
                              by_cases c37 : x81_5 < (t213.length : Int)
                              · rw [if_pos c37] at H
                                have c37b0 : decide (x81_5 < (t213.length : Int)) = true := decide_eq_true c37
                                clear c37
                                by_cases c38 : 0 ≤ x81_5
                                · rw [if_pos c38] at H
                                  have c38b0 : decide (0 ≤ x81_5) = true := decide_eq_true c38
                                  clear c38
                                  by_cases c39 : x81_5 < (t213.length : Int)
                                  · rw [if_pos c39] at H
                                    have c39b0 : decide (x81_5 < (t213.length : Int)) = true := decide_eq_true c39
                                    clear c39
                                    by_cases c40 : x17_5.length < 17592186044416
                                    · as_aux_lemma =>
                                        rw [if_pos c40] at H
                                        have LMc40 := Aside0.mk c40
                                        clear c40
                                        obtain ⟨y217, hy217⟩ : ∃ y_ : List Int, y_ = (x17_5 ++ [wrap64 (a2 + (rd t213 x81_5))]) := ⟨_, rfl⟩
                                        replace H : (bakelaw2_FluxCells.l1 k5 l0 l1 a2 a3 a4 l5 t199 t200 y217 t213 (t213.length : Int) (wrap64 (x81_5 + 1))) = some r := by first | (rw [hy217]; with_reducible exact H) | (have H2_ := (Option.bind_some _ _).symm.trans H; rw [hy217]; with_reducible exact H2_) | (have H2_ := (Option.bind_some _ _).symm.trans H; with_reducible exact H2_) | with_reducible exact H | (rw [hy217]; exact H) | exact H
                                        have Ny217 := Aside0.mk hy217
                                        clear hy217
                                        have H' := Aside0.mk H
                                        clear H
                                        have p216 : 0 ≤ (x81_5 : Int) := of_decide_eq_true (by first | (with_reducible assumption) | assumption)
                                        have q216 : x81_5 < (t213.length : Int) := of_decide_eq_true (by first | (with_reducible assumption) | assumption)
                                        obtain ⟨ad216, e216, hx216_0⟩ := Kd.at_int (Kd.R_reads' HO_79.out).2.2 x81_5 p216 q216
                                        cases e216
                                        replace p216 := eq_true p216
                                        replace q216 := eq_true q216
                                        go_wp2_with (first | ((with_reducible refine gate_builtin (b := .append) (xs := #[.tmp 85, .tmp 89]) rfl ?_); at_builtin; refine Kd.R_append (Kd.int .i64) (w0 := w) w.heap.size rfl (.tmp 85) (.tmp 89) 43 3 (.int .i64 0) 8 rfl Try.underlying43 info3 rfl (by decide) (by omega) u17 x17_5 (wrap64 (a2 + (rd t213 x81_5))) [.int .i64 (wrap64 (a2 + (rd t213 x81_5)))] (fun k_ => some k_ ≠ (v201 : Value).ownBlock ∧ some k_ ≠ (.slice (some ad216) t213.length co36 : Value).ownBlock) (fun _ => False) rfl rfl ?aP (fun _ hk => hk.elim) ?aF ?aO ?aB ?aS ?aL ?_; (case aP => exact rfl); (case aB => exact (by repeat (first | (with_reducible first | exact HB.out | apply below_alloc | apply pw_below_drewN | apply below_drew1) | exact HB.out))); (case aF => exact (fun k_ hk => ⟨Kd.fresh' (Kd.R_lt (by (with_reducible repeat (first | apply Kd.R_alloc | apply Kd.R_drewN | apply Kd.R_drew)); exact HO_13.out)) k_ hk, Kd.fresh' (Kd.R_lt (by (with_reducible repeat (first | apply Kd.R_alloc | apply Kd.R_drewN | apply Kd.R_drew)); exact HO_79.out)) k_ hk⟩)); (case aO => exact (by (with_reducible repeat (first | apply Kd.R_alloc | apply Kd.R_drewN | apply Kd.R_drew)); exact HO_17.out)); (case aS => exact (below_size (by repeat (first | (with_reducible first | exact HB.out | apply below_alloc | apply pw_below_drewN | apply below_drew1) | exact HB.out)))); (case aL => have := LMc40.out; omega); intro v218 w41 ho hb hg hat; rw [← Ny217.out] at ho; have n0_ := Aside0.mk (Kd.R_after (ok := (fun k_ => some k_ ≠ (.slice (some ad216) t213.length co36 : Value).ownBlock)) (by (with_reducible repeat (first | apply Kd.R_alloc | apply Kd.R_drewN | apply Kd.R_drew)); exact Kd.R_mono HO_13.out (fun _ hk => ⟨hk.2, hk.1⟩)) hg hat); have n1_ := Aside0.mk (Kd.R_after (ok := (fun k_ => some k_ ≠ (v201 : Value).ownBlock)) (by (with_reducible repeat (first | apply Kd.R_alloc | apply Kd.R_drewN | apply Kd.R_drew)); exact HO_79.out) hg hat); have n2_ := Aside0.mk (hb); have n3_ := Aside0.mk (ho); clear HO_13; clear HO_79; clear HB; clear HO_17; have HO_13 := n0_; have HO_79 := n1_; have HB := n2_; have HO219 := n3_; clear n0_ n1_ n2_ n3_; clear ho hb hg hat))
                                        go_roundg k5
                                        case measure => have := HJ10.out; have := HJ15.out; have := HJ20.out; have := HK4.out; have := HK5.out; omega
                                        case rel => exact ⟨(y217), (wrap64 (x81_5 + 1)), (by first | rfl | (simp; done) | (simp [*]; done)), H', ⟨by have := HJ10.out; have := HJ15.out; have := HJ20.out; have := HK4.out; have := HK5.out; omega⟩, ⟨by (with_reducible repeat (first | apply Kd.R_alloc | apply Kd.R_drewN | apply Kd.R_drew)); exact Kd.R_mono HO_13.out (fun _ hk => ⟨hk.2, hk.1⟩)⟩, ⟨by (with_reducible repeat (first | apply Kd.R_alloc | apply Kd.R_drewN | apply Kd.R_drew)); exact HO219.out⟩, ⟨by (with_reducible repeat (first | apply Kd.R_alloc | apply Kd.R_drewN | apply Kd.R_drew)); exact HO_79.out⟩, ⟨by repeat (first | (with_reducible first | exact HB.out | apply below_alloc | apply pw_below_drewN | apply below_drew1) | exact HB.out)⟩⟩
                                    · rw [if_neg c40] at H
                                      exact absurd H (by simp)
                                  · rw [if_neg c39] at H
                                    exact absurd H (by simp)
                                · rw [if_neg c38] at H
                                  exact absurd H (by simp)
                              · rw [if_neg c37] at H
                                have c37b0 : decide (x81_5 < (t213.length : Int)) = false := decide_eq_false c37
                                clear c37
                                replace H := Option.bind_eq_some_iff.mp H
                                obtain ⟨t220, A420, H⟩ := H
                                replace H : (bakelaw2_FluxCells.l2 k5 l0 l1 a2 a3 a4 l5 t199 t200 x17_5 t220 (t220.length : Int) 0) = some r := H
                                have A42 := Aside0.mk A420
                                clear A420
                                have H' := Aside0.mk H
                                clear H
                                go_wp2_with (first | ((with_reducible refine gate_callee (f := 36) rfl ?_); refine goesL_ (some 93) rfl rfl Try.func36 (by kernel_rfl) rfl #[.slice A0 l0.length c0] rfl (by (try simp only [List.map_toArray, List.map_cons, List.map_nil]); first | done | rfl | (simp only [List.length_drop, List.length_take]; rfl)) ?_; (with_reducible refine (bakeref2_Times.calls k5 _ _ l0 t220 _ ?side1 ?side2 A42.out).mono ?_); (case side1 => repeat (first | exact (Kd.C_below HR0.out HB.out) | (with_reducible refine Kd.C_alloc ?_ _) | (with_reducible refine Kd.C_drewN ?_ _) | (with_reducible refine Kd.C_drew ?_))); (case side2 => exact HC0.out); rintro e w43 ⟨v221, rfl, ho0, hb⟩; refine ⟨_, rfl, ?_⟩; have n0_ := Aside0.mk (Kd.R_elder' (by (with_reducible repeat (first | apply Kd.R_alloc | apply Kd.R_drewN | apply Kd.R_drew)); exact HO_13.out) (Kd.R_base ho0) hb); have n1_ := Aside0.mk (Kd.R_elder' (by (with_reducible repeat (first | apply Kd.R_alloc | apply Kd.R_drewN | apply Kd.R_drew)); exact HO_17.out) (Kd.R_base ho0) hb); have n2_ := Aside0.mk (Kd.R_elder' (by (with_reducible repeat (first | apply Kd.R_alloc | apply Kd.R_drewN | apply Kd.R_drew)); exact HO_79.out) (Kd.R_base ho0) hb); have n3_ := Aside0.mk (Kd.R_lower (Kd.R_new' (Kd.R_new' (Kd.R_new' ho0 (Kd.R_lt (by (with_reducible repeat (first | apply Kd.R_alloc | apply Kd.R_drewN | apply Kd.R_drew)); exact HO_13.out))) (Kd.R_lt (by (with_reducible repeat (first | apply Kd.R_alloc | apply Kd.R_drewN | apply Kd.R_drew)); exact HO_17.out))) (Kd.R_lt (by (with_reducible repeat (first | apply Kd.R_alloc | apply Kd.R_drewN | apply Kd.R_drew)); exact HO_79.out))) (below_size (by repeat (first | (with_reducible first | exact HB.out | apply below_alloc | apply pw_below_drewN | apply below_drew1) | exact HB.out)))); have n4_ := Aside0.mk (below_step (by repeat (first | (with_reducible first | exact HB.out | apply below_alloc | apply pw_below_drewN | apply below_drew1) | exact HB.out)) hb); clear HO_13; clear HO_17; clear HO_79; clear HB; have HO_13 := n0_; have HO_17 := n1_; have HO_79 := n2_; have HO222 := n3_; have HB := n4_; clear n0_ n1_ n2_ n3_ n4_; (try clear hb); (try clear hb2); (try clear hk); (try clear hi); (try clear ho0); obtain ⟨Ao44, co44, eo44⟩ := Kd.R_slice HO222.out; subst eo44))
                                go_loopg [17, 95] k5 (fun kq v17 v95 w' => ∃ (x17_6 : List Int) (x95_6 : Int), v95 = .int .i64 x95_6 ∧ Aside0 (bakelaw2_FluxCells.l2 kq l0 l1 a2 a3 a4 l5 t199 t200 x17_6 t220 (t220.length : Int) x95_6 = some r) ∧ Aside0 (kq ≤ k5) ∧ Aside0 (Kd.R (Kd.int .i64) 3 w' w.heap.size (fun k_ => some k_ ≠ (v17 : Value).ownBlock ∧ some k_ ≠ ((.slice Ao44 t220.length co44) : Value).ownBlock) v201 t199) ∧ Aside0 (Kd.R (Kd.int .i64) 3 w' w.heap.size (fun k_ => some k_ ≠ (v201 : Value).ownBlock ∧ some k_ ≠ ((.slice Ao44 t220.length co44) : Value).ownBlock) v17 x17_6) ∧ Aside0 (Kd.R (Kd.int .i64) 3 w' w.heap.size (fun k_ => some k_ ≠ (v201 : Value).ownBlock ∧ some k_ ≠ (v17 : Value).ownBlock) (.slice Ao44 t220.length co44) t220) ∧ Aside0 (Below w.heap.size w w'))
                                case atStart => exact ⟨(x17_5), (0), (by first | rfl | (simp; done) | (simp [*]; done)), H', ⟨Nat.le_refl _⟩, ⟨by (with_reducible repeat (first | apply Kd.R_alloc | apply Kd.R_drewN | apply Kd.R_drew)); exact Kd.R_mono HO_13.out (fun _ hk => ⟨hk.1.1, hk.2⟩)⟩, ⟨by (with_reducible repeat (first | apply Kd.R_alloc | apply Kd.R_drewN | apply Kd.R_drew)); exact Kd.R_mono HO_17.out (fun _ hk => ⟨hk.1.1, hk.2⟩)⟩, ⟨by (with_reducible repeat (first | apply Kd.R_alloc | apply Kd.R_drewN | apply Kd.R_drew)); exact Kd.R_mono HO222.out (fun _ hk => ⟨hk.1.1.2, hk.1.2⟩)⟩, ⟨by repeat (first | (with_reducible first | exact HB.out | apply below_alloc | apply pw_below_drewN | apply below_drew1) | exact HB.out)⟩⟩
                                case round =>
                                  clear H'
                                  try clear c1
                                  try clear c2
                                  try clear p2
                                  try clear q2
                                  try clear hx2
                                  try clear c3
                                  try clear c4
                                  try clear c5
                                  try clear p6
                                  try clear c7
                                  try clear c8
                                  try clear c13
                                  try clear c14
                                  try clear c14b0
                                  try clear c14b1
                                  try clear c17
                                  try clear c17b0
                                  try clear c17b1
                                  try clear c18
                                  try clear c18b0
                                  try clear p20
                                  try clear q20
                                  try clear hx20
                                  try clear p21
                                  try clear q21
                                  try clear hx21
                                  try clear c22
                                  try clear c24
                                  try clear c24b0
                                  try clear c24b1
                                  try clear c28
                                  try clear c28b0
                                  try clear c29
                                  try clear c29b0
                                  try clear c30
                                  try clear c30b0
                                  try clear c31
                                  try clear c31b0
                                  try clear c32
                                  try clear c36
                                  try clear c37
                                  try clear c37b0
                                  try clear c38
                                  try clear c38b0
                                  try clear c39
                                  try clear c39b0
                                  try clear c40
                                  try clear hx209_0
                                  try clear hx216_0
                                  try clear p2
                                  try clear p20
                                  try clear p209
                                  try clear p216
                                  try clear p6
                                  try clear q2
                                  try clear q20
                                  try clear q209
                                  try clear q216
                                  obtain ⟨x17_6, x95_6, rfl, HA, HK6, HO_13, HO_17, HO_93, HB⟩ := hrel
                                  cases gk with
                                  | zero => exact absurd HA.out (by simp [bakelaw2_FluxCells.l2])
                                  | succ k6 =>
                                    have H := HA.out
                                    clear HA
                                    simp only [bakelaw2_FluxCells.l2] at H
                                    by_cases c45 : x95_6 < (t220.length : Int)
                                    · rw [if_pos c45] at H
                                      have c45b0 : decide (x95_6 < (t220.length : Int)) = true := decide_eq_true c45
                                      clear c45
                                      by_cases c46 : 0 ≤ x95_6
                                      · rw [if_pos c46] at H
                                        have c46b0 : decide (0 ≤ x95_6) = true := decide_eq_true c46
                                        clear c46
                                        by_cases c47 : x95_6 < (t220.length : Int)
                                        · rw [if_pos c47] at H
                                          have c47b0 : decide (x95_6 < (t220.length : Int)) = true := decide_eq_true c47
                                          clear c47
                                          replace H := Option.bind_eq_some_iff.mp H
                                          obtain ⟨t224, A480, H⟩ := H
                                          replace H : (if (rd t220 x95_6) > (wrap64 (a2 + t224)) then (if x17_6.length < 17592186044416 then (bakelaw2_FluxCells.l2 k6 l0 l1 a2 a3 a4 l5 t199 t200 (x17_6 ++ [rd t220 x95_6]) t220 (t220.length : Int) (wrap64 (x95_6 + 1))) else (none)) else (bakelaw2_FluxCells.l2 k6 l0 l1 a2 a3 a4 l5 t199 t200 x17_6 t220 (t220.length : Int) (wrap64 (x95_6 + 1)))) = some r := H
                                          have A48 := Aside0.mk A480
                                          clear A480
                                          by_cases c49 : (rd t220 x95_6) > (wrap64 (a2 + t224))
                                          · rw [if_pos c49] at H
                                            have c49b0 : decide ((wrap64 (a2 + t224)) < (rd t220 x95_6)) = true := decide_eq_true c49
                                            clear c49
                                            by_cases c50 : x17_6.length < 17592186044416
                                            · as_aux_lemma =>
                                                rw [if_pos c50] at H
                                                have LMc50 := Aside0.mk c50
                                                clear c50
                                                obtain ⟨y225, hy225⟩ : ∃ y_ : List Int, y_ = (x17_6 ++ [rd t220 x95_6]) := ⟨_, rfl⟩
                                                replace H : (bakelaw2_FluxCells.l2 k6 l0 l1 a2 a3 a4 l5 t199 t200 y225 t220 (t220.length : Int) (wrap64 (x95_6 + 1))) = some r := by first | (rw [hy225]; with_reducible exact H) | (have H2_ := (Option.bind_some _ _).symm.trans H; rw [hy225]; with_reducible exact H2_) | (have H2_ := (Option.bind_some _ _).symm.trans H; with_reducible exact H2_) | with_reducible exact H | (rw [hy225]; exact H) | exact H
                                                have Ny225 := Aside0.mk hy225
                                                clear hy225
                                                have H' := Aside0.mk H
                                                clear H
                                                have p223 : 0 ≤ (x95_6 : Int) := of_decide_eq_true (by first | (with_reducible assumption) | assumption)
                                                have q223 : x95_6 < (t220.length : Int) := of_decide_eq_true (by first | (with_reducible assumption) | assumption)
                                                obtain ⟨ad223, e223, hx223_0⟩ := Kd.at_int (Kd.R_reads' HO_93.out).2.2 x95_6 p223 q223
                                                cases e223
                                                replace p223 := eq_true p223
                                                replace q223 := eq_true q223
                                                go_wp2_with (first | ((with_reducible refine gate_callee (f := 37) rfl ?_); refine goesL_ (some 102) rfl rfl Try.func37 (by kernel_rfl) rfl #[.slice A1 l1.length c1] rfl (by (try simp only [List.map_toArray, List.map_cons, List.map_nil]); first | done | rfl | (simp only [List.length_drop, List.length_take]; rfl)) ?_; (with_reducible refine (bakeref2_End.calls k6 _ _ l1 t224 _ ?side1 ?side2 A48.out).mono ?_); (case side1 => repeat (first | exact (Kd.C_below HR1.out HB.out) | (with_reducible refine Kd.C_alloc ?_ _) | (with_reducible refine Kd.C_drewN ?_ _) | (with_reducible refine Kd.C_drew ?_))); (case side2 => exact HC1.out); rintro e w51 ⟨rfl, hb⟩; refine ⟨_, rfl, ?_⟩; have n0_ := Aside0.mk (Kd.R_below (by (with_reducible repeat (first | apply Kd.R_alloc | apply Kd.R_drewN | apply Kd.R_drew)); exact HO_13.out) hb); have n1_ := Aside0.mk (Kd.R_below (by (with_reducible repeat (first | apply Kd.R_alloc | apply Kd.R_drewN | apply Kd.R_drew)); exact HO_17.out) hb); have n2_ := Aside0.mk (Kd.R_below (by (with_reducible repeat (first | apply Kd.R_alloc | apply Kd.R_drewN | apply Kd.R_drew)); exact HO_93.out) hb); have n3_ := Aside0.mk (below_step (by repeat (first | (with_reducible first | exact HB.out | apply below_alloc | apply pw_below_drewN | apply below_drew1) | exact HB.out)) hb); clear HO_13; clear HO_17; clear HO_93; clear HB; have HO_13 := n0_; have HO_17 := n1_; have HO_93 := n2_; have HB := n3_; clear n0_ n1_ n2_ n3_; (try clear hb); (try clear hb2); (try clear hk); (try clear hi)) | ((with_reducible refine gate_builtin (b := .append) (xs := #[.tmp 105, .tmp 107]) rfl ?_); at_builtin; refine Kd.R_append (Kd.int .i64) (w0 := w) w.heap.size rfl (.tmp 105) (.tmp 107) 43 3 (.int .i64 0) 8 rfl Try.underlying43 info3 rfl (by decide) (by omega) u17 x17_6 (rd t220 x95_6) [.int .i64 (rd t220 x95_6)] (fun k_ => some k_ ≠ (v201 : Value).ownBlock ∧ some k_ ≠ (.slice (some ad223) t220.length co44 : Value).ownBlock) (fun _ => False) rfl rfl ?aP (fun _ hk => hk.elim) ?aF ?aO ?aB ?aS ?aL ?_; (case aP => exact rfl); (case aB => exact (by repeat (first | (with_reducible first | exact HB.out | apply below_alloc | apply pw_below_drewN | apply below_drew1) | exact HB.out))); (case aF => exact (fun k_ hk => ⟨Kd.fresh' (Kd.R_lt (by (with_reducible repeat (first | apply Kd.R_alloc | apply Kd.R_drewN | apply Kd.R_drew)); exact HO_13.out)) k_ hk, Kd.fresh' (Kd.R_lt (by (with_reducible repeat (first | apply Kd.R_alloc | apply Kd.R_drewN | apply Kd.R_drew)); exact HO_93.out)) k_ hk⟩)); (case aO => exact (by (with_reducible repeat (first | apply Kd.R_alloc | apply Kd.R_drewN | apply Kd.R_drew)); exact HO_17.out)); (case aS => exact (below_size (by repeat (first | (with_reducible first | exact HB.out | apply below_alloc | apply pw_below_drewN | apply below_drew1) | exact HB.out)))); (case aL => have := LMc50.out; omega); intro v226 w52 ho hb hg hat; rw [← Ny225.out] at ho; have n0_ := Aside0.mk (Kd.R_after (ok := (fun k_ => some k_ ≠ (.slice (some ad223) t220.length co44 : Value).ownBlock)) (by (with_reducible repeat (first | apply Kd.R_alloc | apply Kd.R_drewN | apply Kd.R_drew)); exact Kd.R_mono HO_13.out (fun _ hk => ⟨hk.2, hk.1⟩)) hg hat); have n1_ := Aside0.mk (Kd.R_after (ok := (fun k_ => some k_ ≠ (v201 : Value).ownBlock)) (by (with_reducible repeat (first | apply Kd.R_alloc | apply Kd.R_drewN | apply Kd.R_drew)); exact HO_93.out) hg hat); have n2_ := Aside0.mk (hb); have n3_ := Aside0.mk (ho); clear HO_13; clear HO_93; clear HB; clear HO_17; have HO_13 := n0_; have HO_93 := n1_; have HB := n2_; have HO227 := n3_; clear n0_ n1_ n2_ n3_; clear ho hb hg hat))
                                                go_roundg k6
                                                case measure => have := HJ10.out; have := HJ15.out; have := HJ20.out; have := HK4.out; have := HK5.out; have := HK6.out; omega
                                                case rel => exact ⟨(y225), (wrap64 (x95_6 + 1)), (by first | rfl | (simp; done) | (simp [*]; done)), H', ⟨by have := HJ10.out; have := HJ15.out; have := HJ20.out; have := HK4.out; have := HK5.out; have := HK6.out; omega⟩, ⟨by (with_reducible repeat (first | apply Kd.R_alloc | apply Kd.R_drewN | apply Kd.R_drew)); exact Kd.R_mono HO_13.out (fun _ hk => ⟨hk.2, hk.1⟩)⟩, ⟨by (with_reducible repeat (first | apply Kd.R_alloc | apply Kd.R_drewN | apply Kd.R_drew)); exact HO227.out⟩, ⟨by (with_reducible repeat (first | apply Kd.R_alloc | apply Kd.R_drewN | apply Kd.R_drew)); exact HO_93.out⟩, ⟨by repeat (first | (with_reducible first | exact HB.out | apply below_alloc | apply pw_below_drewN | apply below_drew1) | exact HB.out)⟩⟩
                                            · rw [if_neg c50] at H
                                              exact absurd H (by simp)
                                          · as_aux_lemma =>
                                              rw [if_neg c49] at H
                                              have c49b0 : decide ((wrap64 (a2 + t224)) < (rd t220 x95_6)) = false := decide_eq_false c49
                                              clear c49
                                              have H' := Aside0.mk H
                                              clear H
                                              have p223 : 0 ≤ (x95_6 : Int) := of_decide_eq_true (by first | (with_reducible assumption) | assumption)
                                              have q223 : x95_6 < (t220.length : Int) := of_decide_eq_true (by first | (with_reducible assumption) | assumption)
                                              obtain ⟨ad223, e223, hx223_0⟩ := Kd.at_int (Kd.R_reads' HO_93.out).2.2 x95_6 p223 q223
                                              cases e223
                                              replace p223 := eq_true p223
                                              replace q223 := eq_true q223
                                              go_wp2_with (first | ((with_reducible refine gate_callee (f := 37) rfl ?_); refine goesL_ (some 102) rfl rfl Try.func37 (by kernel_rfl) rfl #[.slice A1 l1.length c1] rfl (by (try simp only [List.map_toArray, List.map_cons, List.map_nil]); first | done | rfl | (simp only [List.length_drop, List.length_take]; rfl)) ?_; (with_reducible refine (bakeref2_End.calls k6 _ _ l1 t224 _ ?side1 ?side2 A48.out).mono ?_); (case side1 => repeat (first | exact (Kd.C_below HR1.out HB.out) | (with_reducible refine Kd.C_alloc ?_ _) | (with_reducible refine Kd.C_drewN ?_ _) | (with_reducible refine Kd.C_drew ?_))); (case side2 => exact HC1.out); rintro e w53 ⟨rfl, hb⟩; refine ⟨_, rfl, ?_⟩; have n0_ := Aside0.mk (Kd.R_below (by (with_reducible repeat (first | apply Kd.R_alloc | apply Kd.R_drewN | apply Kd.R_drew)); exact HO_13.out) hb); have n1_ := Aside0.mk (Kd.R_below (by (with_reducible repeat (first | apply Kd.R_alloc | apply Kd.R_drewN | apply Kd.R_drew)); exact HO_17.out) hb); have n2_ := Aside0.mk (Kd.R_below (by (with_reducible repeat (first | apply Kd.R_alloc | apply Kd.R_drewN | apply Kd.R_drew)); exact HO_93.out) hb); have n3_ := Aside0.mk (below_step (by repeat (first | (with_reducible first | exact HB.out | apply below_alloc | apply pw_below_drewN | apply below_drew1) | exact HB.out)) hb); clear HO_13; clear HO_17; clear HO_93; clear HB; have HO_13 := n0_; have HO_17 := n1_; have HO_93 := n2_; have HB := n3_; clear n0_ n1_ n2_ n3_; (try clear hb); (try clear hb2); (try clear hk); (try clear hi)))
                                              go_roundg k6
                                              case measure => have := HJ10.out; have := HJ15.out; have := HJ20.out; have := HK4.out; have := HK5.out; have := HK6.out; omega
                                              case rel => exact ⟨(x17_6), (wrap64 (x95_6 + 1)), (by first | rfl | (simp; done) | (simp [*]; done)), H', ⟨by have := HJ10.out; have := HJ15.out; have := HJ20.out; have := HK4.out; have := HK5.out; have := HK6.out; omega⟩, ⟨by (with_reducible repeat (first | apply Kd.R_alloc | apply Kd.R_drewN | apply Kd.R_drew)); exact HO_13.out⟩, ⟨by (with_reducible repeat (first | apply Kd.R_alloc | apply Kd.R_drewN | apply Kd.R_drew)); exact HO_17.out⟩, ⟨by (with_reducible repeat (first | apply Kd.R_alloc | apply Kd.R_drewN | apply Kd.R_drew)); exact HO_93.out⟩, ⟨by repeat (first | (with_reducible first | exact HB.out | apply below_alloc | apply pw_below_drewN | apply below_drew1) | exact HB.out)⟩⟩
                                        · rw [if_neg c47] at H
                                          exact absurd H (by simp)
                                      · rw [if_neg c46] at H
                                        exact absurd H (by simp)
                                    · as_aux_lemma =>
                                        rw [if_neg c45] at H
                                        have c45b0 : decide (x95_6 < (t220.length : Int)) = false := decide_eq_false c45
                                        clear c45
                                        replace H := Option.bind_eq_some_iff.mp H
                                        obtain ⟨⟨t228, t229⟩, A540, H⟩ := H
                                        replace H : (bakelaw2_FluxCells.j6 k6 l0 a3 a4 l5 t199 t200 t228 t229) = some r := H
                                        have A54 := Aside0.mk A540
                                        clear A540
                                        have H' := Aside0.mk H
                                        clear H
                                        obtain ⟨Ao55, co55, eo55⟩ := Kd.R_slice HO_17.out
                                        subst eo55
                                        go_wp2_with (first | ((with_reducible refine gate_callee (f := 39) rfl ?_); refine goesL_ (some 112) rfl rfl Try.func39 (by kernel_rfl) rfl #[.slice Ao55 x17_6.length co55] rfl (by (try simp only [List.map_toArray, List.map_cons, List.map_nil]); first | done | rfl | (simp only [List.length_drop, List.length_take]; rfl)) ?_; (with_reducible refine (bakeref2_Between.calls k6 _ _ x17_6 t228 t229 _ ?side1 ?side2 A54.out).mono ?_); (case side1 => repeat (first | exact (Kd.R_reads' HO_17.out).2.2 | (with_reducible refine Kd.C_alloc ?_ _) | (with_reducible refine Kd.C_drewN ?_ _) | (with_reducible refine Kd.C_drew ?_))); (case side2 => exact (Kd.R_reads' HO_17.out).2.1); rintro e w56 ⟨v230, rfl, ho0, hb⟩; refine ⟨_, rfl, ?_⟩; have n0_ := Aside0.mk (Kd.R_elder' (by (with_reducible repeat (first | apply Kd.R_alloc | apply Kd.R_drewN | apply Kd.R_drew)); exact HO_13.out) (Kd.R_base ho0) hb); have n1_ := Aside0.mk (Kd.R_elder' (by (with_reducible repeat (first | apply Kd.R_alloc | apply Kd.R_drewN | apply Kd.R_drew)); exact HO_17.out) (Kd.R_base ho0) hb); have n2_ := Aside0.mk (Kd.R_elder' (by (with_reducible repeat (first | apply Kd.R_alloc | apply Kd.R_drewN | apply Kd.R_drew)); exact HO_93.out) (Kd.R_base ho0) hb); have n3_ := Aside0.mk (Kd.R_lower (Kd.R_new' (Kd.R_new' (Kd.R_new' ho0 (Kd.R_lt (by (with_reducible repeat (first | apply Kd.R_alloc | apply Kd.R_drewN | apply Kd.R_drew)); exact HO_13.out))) (Kd.R_lt (by (with_reducible repeat (first | apply Kd.R_alloc | apply Kd.R_drewN | apply Kd.R_drew)); exact HO_17.out))) (Kd.R_lt (by (with_reducible repeat (first | apply Kd.R_alloc | apply Kd.R_drewN | apply Kd.R_drew)); exact HO_93.out))) (below_size (by repeat (first | (with_reducible first | exact HB.out | apply below_alloc | apply pw_below_drewN | apply below_drew1) | exact HB.out)))); have n4_ := Aside0.mk (below_step (by repeat (first | (with_reducible first | exact HB.out | apply below_alloc | apply pw_below_drewN | apply below_drew1) | exact HB.out)) hb); clear HO_13; clear HO_17; clear HO_93; clear HB; have HO_13 := n0_; have HO_17 := n1_; have HO_93 := n2_; have HO231 := n3_; have HB := n4_; clear n0_ n1_ n2_ n3_ n4_; (try clear hb); (try clear hb2); (try clear hk); (try clear hi); (try clear ho0)))
                                        go_meet
                                        case rel => exact ⟨_, (t228), (t229), (by first | rfl | (simp; done) | (simp [*]; done)), H', ⟨by have := HJ10.out; have := HJ15.out; have := HJ20.out; have := HK4.out; have := HK5.out; have := HK6.out; first | omega | exact Nat.le_refl _⟩, ⟨by (with_reducible repeat (first | apply Kd.R_alloc | apply Kd.R_drewN | apply Kd.R_drew)); exact Kd.R_mono HO_13.out (fun _ hk => hk.2)⟩, ⟨by (with_reducible repeat (first | apply Kd.R_alloc | apply Kd.R_drewN | apply Kd.R_drew)); exact Kd.R_mono HO231.out (fun _ hk => hk.1.1.2)⟩, ⟨by repeat (first | (with_reducible first | exact HB.out | apply below_alloc | apply pw_below_drewN | apply below_drew1) | exact HB.out)⟩⟩
                  · as_aux_lemma =>
                      rw [if_neg c24] at H
                      have c24b0 : (x16_20 == 0) = false := beq_eq_false_iff_ne.mpr c24
                      have c24b1 : (x16_20 != 0) = true := bne_iff_ne.mpr c24
                      (first | rw [c24b0] | (simp only [i64_w, i32_w]; rw [c24b0]) | skip)
                      have H' := Aside0.mk H
                      clear H
                      go_wp2
                      go_meet
                      case rel => exact ⟨_, (([] : List Int)), (x16_20), (by first | rfl | (simp; done) | (simp [*]; done)), H', ⟨by have := HJ10.out; have := HJ15.out; have := HJ20.out; first | omega | exact Nat.le_refl _⟩, ⟨by (with_reducible repeat (first | apply Kd.R_alloc | apply Kd.R_drewN | apply Kd.R_drew)); exact HO_13.out⟩, ⟨by (with_reducible repeat (first | apply Kd.R_alloc | apply Kd.R_drewN | apply Kd.R_drew)); exact HO_15.out⟩, ⟨by repeat (first | (with_reducible first | exact HB.out | apply below_alloc | apply pw_below_drewN | apply below_drew1) | exact HB.out)⟩⟩
                case rest =>
                  clear HC23
                  try clear c1
                  try clear c2
                  try clear p2
                  try clear q2
                  try clear hx2
                  try clear c3
                  try clear c4
                  try clear c5
                  try clear p6
                  try clear c7
                  try clear c8
                  try clear c13
                  try clear c14
                  try clear c14b0
                  try clear c14b1
                  try clear c17
                  try clear c17b0
                  try clear c17b1
                  try clear c18
                  try clear c18b0
                  try clear p20
                  try clear q20
                  try clear hx20
                  try clear p21
                  try clear q21
                  try clear hx21
                  try clear c22
                  try clear p22
                  try clear q22
                  try clear hx22
                  try clear c24
                  try clear c24b0
                  try clear c24b1
                  try clear c28
                  try clear c28b0
                  try clear c29
                  try clear c29b0
                  try clear c30
                  try clear c30b0
                  try clear c31
                  try clear c31b0
                  try clear c32
                  try clear c36
                  try clear c37
                  try clear c37b0
                  try clear c38
                  try clear c38b0
                  try clear c39
                  try clear c39b0
                  try clear c40
                  try clear c45
                  try clear c45b0
                  try clear c46
                  try clear c46b0
                  try clear c47
                  try clear c47b0
                  try clear c49
                  try clear c49b0
                  try clear c50
                  try clear hx209_0
                  try clear hx216_0
                  try clear hx223_0
                  try clear p2
                  try clear p20
                  try clear p209
                  try clear p21
                  try clear p216
                  try clear p223
                  try clear p6
                  try clear q2
                  try clear q20
                  try clear q209
                  try clear q21
                  try clear q216
                  try clear q223
                  obtain ⟨kq, x15_22, x16_22, rfl, HA, HJ22, HO_13, HO_15, HB⟩ := hcut
                  cases kq with
                  | zero => exact absurd HA.out (by simp [bakelaw2_FluxCells.j6])
                  | succ kj22 =>
                    have H := HA.out
                    clear HA
                    simp only [bakelaw2_FluxCells.j6] at H
                    replace H := Option.bind_eq_some_iff.mp H
                    obtain ⟨⟨t232, t233⟩, A570, H⟩ := H
                    replace H : ((bakeref2_Counts.f kj22 l0 a3 a4).bind fun bt236 => ((flux_Pulses.f kj22 l5 a3).bind fun bt240 => (if a3 < 2 then (bakelaw2_FluxCells.j7 kj22 a3 l5 t199 t200 x15_22 x16_22 t232 t233 bt236.1 bt236.2 bt240.1 bt240.2 ([] : List Int) 0 true) else (bakelaw2_FluxCells.j7 kj22 a3 l5 t199 t200 x15_22 x16_22 t232 t233 bt236.1 bt236.2 bt240.1 bt240.2 ([] : List Int) 0 (decide (a3 > 1000)))))) = some r := H
                    have A57 := Aside0.mk A570
                    clear A570
                    replace H := Option.bind_eq_some_iff.mp H
                    obtain ⟨⟨t236, t237⟩, A580, H⟩ := H
                    replace H : ((flux_Pulses.f kj22 l5 a3).bind fun bt240 => (if a3 < 2 then (bakelaw2_FluxCells.j7 kj22 a3 l5 t199 t200 x15_22 x16_22 t232 t233 t236 t237 bt240.1 bt240.2 ([] : List Int) 0 true) else (bakelaw2_FluxCells.j7 kj22 a3 l5 t199 t200 x15_22 x16_22 t232 t233 t236 t237 bt240.1 bt240.2 ([] : List Int) 0 (decide (a3 > 1000))))) = some r := H
                    have A58 := Aside0.mk A580
                    clear A580
                    replace H := Option.bind_eq_some_iff.mp H
                    obtain ⟨⟨t240, t241⟩, A590, H⟩ := H
                    replace H : (if a3 < 2 then (bakelaw2_FluxCells.j7 kj22 a3 l5 t199 t200 x15_22 x16_22 t232 t233 t236 t237 t240 t241 ([] : List Int) 0 true) else (bakelaw2_FluxCells.j7 kj22 a3 l5 t199 t200 x15_22 x16_22 t232 t233 t236 t237 t240 t241 ([] : List Int) 0 (decide (a3 > 1000)))) = some r := H
                    have A59 := Aside0.mk A590
                    clear A590
                    have HC60 := Aside0.mk H
                    clear H
                    go_upto_region 40 with (first | ((with_reducible refine gate_callee (f := 78) rfl ?_); refine goesL_ (some 119) rfl rfl Try.func78 (by kernel_rfl) rfl #[.slice A0 l0.length c0, .int .i64 a3, .int .i64 a4] rfl (by (try simp only [List.map_toArray, List.map_cons, List.map_nil]); first | done | rfl | (simp only [List.length_drop, List.length_take]; rfl)) ?_; (with_reducible refine (flux_Cells.calls kj22 _ _ l0 a3 a4 t232 t233 _ ?side1 ?side2 A57.out).mono ?_); (case side1 => repeat (first | exact (Kd.C_below HR0.out HB.out) | (with_reducible refine Kd.C_alloc ?_ _) | (with_reducible refine Kd.C_drewN ?_ _) | (with_reducible refine Kd.C_drew ?_))); (case side2 => exact HC0.out); rintro e w61 ⟨v234, rfl, ho0, hb⟩; refine ⟨_, rfl, ?_⟩; have n0_ := Aside0.mk (Kd.R_elder' (by (with_reducible repeat (first | apply Kd.R_alloc | apply Kd.R_drewN | apply Kd.R_drew)); exact HO_13.out) (Kd.R_base ho0) hb); have n1_ := Aside0.mk (Kd.R_elder' (by (with_reducible repeat (first | apply Kd.R_alloc | apply Kd.R_drewN | apply Kd.R_drew)); exact HO_15.out) (Kd.R_base ho0) hb); have n2_ := Aside0.mk (Kd.R_lower (Kd.R_new' (Kd.R_new' ho0 (Kd.R_lt (by (with_reducible repeat (first | apply Kd.R_alloc | apply Kd.R_drewN | apply Kd.R_drew)); exact HO_13.out))) (Kd.R_lt (by (with_reducible repeat (first | apply Kd.R_alloc | apply Kd.R_drewN | apply Kd.R_drew)); exact HO_15.out))) (below_size (by repeat (first | (with_reducible first | exact HB.out | apply below_alloc | apply pw_below_drewN | apply below_drew1) | exact HB.out)))); have n3_ := Aside0.mk (below_step (by repeat (first | (with_reducible first | exact HB.out | apply below_alloc | apply pw_below_drewN | apply below_drew1) | exact HB.out)) hb); clear HO_13; clear HO_15; clear HB; have HO_13 := n0_; have HO_15 := n1_; have HO235 := n2_; have HB := n3_; clear n0_ n1_ n2_ n3_; (try clear hb); (try clear hb2); (try clear hk); (try clear hi); (try clear ho0)) | ((with_reducible refine gate_callee (f := 79) rfl ?_); refine goesL_ (some 126) rfl rfl Try.func79 (by kernel_rfl) rfl #[.slice A0 l0.length c0, .int .i64 a3, .int .i64 a4] rfl (by (try simp only [List.map_toArray, List.map_cons, List.map_nil]); first | done | rfl | (simp only [List.length_drop, List.length_take]; rfl)) ?_; (with_reducible refine (bakeref2_Counts.calls kj22 _ _ l0 a3 a4 t236 t237 _ ?side1 ?side2 A58.out).mono ?_); (case side1 => repeat (first | exact (Kd.C_below HR0.out HB.out) | (with_reducible refine Kd.C_alloc ?_ _) | (with_reducible refine Kd.C_drewN ?_ _) | (with_reducible refine Kd.C_drew ?_))); (case side2 => exact HC0.out); rintro e w62 ⟨v238, rfl, ho0, hb⟩; refine ⟨_, rfl, ?_⟩; have n0_ := Aside0.mk (Kd.R_elder' (by (with_reducible repeat (first | apply Kd.R_alloc | apply Kd.R_drewN | apply Kd.R_drew)); exact HO_13.out) (Kd.R_base ho0) hb); have n1_ := Aside0.mk (Kd.R_elder' (by (with_reducible repeat (first | apply Kd.R_alloc | apply Kd.R_drewN | apply Kd.R_drew)); exact HO_15.out) (Kd.R_base ho0) hb); have n2_ := Aside0.mk (Kd.R_elder' (by (with_reducible repeat (first | apply Kd.R_alloc | apply Kd.R_drewN | apply Kd.R_drew)); exact HO235.out) (Kd.R_base ho0) hb); have n3_ := Aside0.mk (Kd.R_lower (Kd.R_new' (Kd.R_new' (Kd.R_new' ho0 (Kd.R_lt (by (with_reducible repeat (first | apply Kd.R_alloc | apply Kd.R_drewN | apply Kd.R_drew)); exact HO_13.out))) (Kd.R_lt (by (with_reducible repeat (first | apply Kd.R_alloc | apply Kd.R_drewN | apply Kd.R_drew)); exact HO_15.out))) (Kd.R_lt (by (with_reducible repeat (first | apply Kd.R_alloc | apply Kd.R_drewN | apply Kd.R_drew)); exact HO235.out))) (below_size (by repeat (first | (with_reducible first | exact HB.out | apply below_alloc | apply pw_below_drewN | apply below_drew1) | exact HB.out)))); have n4_ := Aside0.mk (below_step (by repeat (first | (with_reducible first | exact HB.out | apply below_alloc | apply pw_below_drewN | apply below_drew1) | exact HB.out)) hb); clear HO_13; clear HO_15; clear HO235; clear HB; have HO_13 := n0_; have HO_15 := n1_; have HO235 := n2_; have HO239 := n3_; have HB := n4_; clear n0_ n1_ n2_ n3_ n4_; (try clear hb); (try clear hb2); (try clear hk); (try clear hi); (try clear ho0)) | ((with_reducible refine gate_callee (f := 80) rfl ?_); refine goesL_ (some 132) rfl rfl Try.func80 (by kernel_rfl) rfl #[.slice A5 l5.length c5, .int .i64 a3] rfl (by (try simp only [List.map_toArray, List.map_cons, List.map_nil]); first | done | rfl | (simp only [List.length_drop, List.length_take]; rfl)) ?_; (with_reducible refine (flux_Pulses.calls kj22 _ _ l5 a3 t240 t241 _ ?side1 ?side2 A59.out).mono ?_); (case side1 => repeat (first | exact (Kd.C_below HR5.out HB.out) | (with_reducible refine Kd.C_alloc ?_ _) | (with_reducible refine Kd.C_drewN ?_ _) | (with_reducible refine Kd.C_drew ?_))); (case side2 => exact HC5.out); rintro e w63 ⟨v242, rfl, ho0, hb⟩; refine ⟨_, rfl, ?_⟩; have n0_ := Aside0.mk (Kd.R_elder' (by (with_reducible repeat (first | apply Kd.R_alloc | apply Kd.R_drewN | apply Kd.R_drew)); exact HO_13.out) (Kd.R_base ho0) hb); have n1_ := Aside0.mk (Kd.R_elder' (by (with_reducible repeat (first | apply Kd.R_alloc | apply Kd.R_drewN | apply Kd.R_drew)); exact HO_15.out) (Kd.R_base ho0) hb); have n2_ := Aside0.mk (Kd.R_elder' (by (with_reducible repeat (first | apply Kd.R_alloc | apply Kd.R_drewN | apply Kd.R_drew)); exact HO235.out) (Kd.R_base ho0) hb); have n3_ := Aside0.mk (Kd.R_elder' (by (with_reducible repeat (first | apply Kd.R_alloc | apply Kd.R_drewN | apply Kd.R_drew)); exact HO239.out) (Kd.R_base ho0) hb); have n4_ := Aside0.mk (Kd.R_lower (Kd.R_new' (Kd.R_new' (Kd.R_new' (Kd.R_new' ho0 (Kd.R_lt (by (with_reducible repeat (first | apply Kd.R_alloc | apply Kd.R_drewN | apply Kd.R_drew)); exact HO_13.out))) (Kd.R_lt (by (with_reducible repeat (first | apply Kd.R_alloc | apply Kd.R_drewN | apply Kd.R_drew)); exact HO_15.out))) (Kd.R_lt (by (with_reducible repeat (first | apply Kd.R_alloc | apply Kd.R_drewN | apply Kd.R_drew)); exact HO235.out))) (Kd.R_lt (by (with_reducible repeat (first | apply Kd.R_alloc | apply Kd.R_drewN | apply Kd.R_drew)); exact HO239.out))) (below_size (by repeat (first | (with_reducible first | exact HB.out | apply below_alloc | apply pw_below_drewN | apply below_drew1) | exact HB.out)))); have n5_ := Aside0.mk (below_step (by repeat (first | (with_reducible first | exact HB.out | apply below_alloc | apply pw_below_drewN | apply below_drew1) | exact HB.out)) hb); clear HO_13; clear HO_15; clear HO235; clear HO239; clear HB; have HO_13 := n0_; have HO_15 := n1_; have HO235 := n2_; have HO239 := n3_; have HO243 := n4_; have HB := n5_; clear n0_ n1_ n2_ n3_ n4_ n5_; (try clear hb); (try clear hb2); (try clear hk); (try clear hi); (try clear ho0)))
                    (try simp only [Act.put, List.setIfInBounds_toArray, List.set_cons_zero, List.set_cons_succ])
                    go_cut [148] (fun v148 wc => ∃ (kq : Nat) (x148_59 : Bool), v148 = .bool x148_59 ∧ Aside0 (bakelaw2_FluxCells.j7 kq a3 l5 t199 t200 x15_22 x16_22 t232 t233 t236 t237 t240 t241 ([] : List Int) 0 x148_59 = some r) ∧ Aside0 (kq ≤ kj22) ∧ Aside0 (Kd.R (Kd.int .i64) 3 wc w.heap.size (fun k_ => some k_ ≠ (u15 : Value).ownBlock ∧ some k_ ≠ (v234 : Value).ownBlock ∧ some k_ ≠ (v238 : Value).ownBlock ∧ some k_ ≠ (v242 : Value).ownBlock ∧ some k_ ≠ ((.slice none 0 0) : Value).ownBlock) v201 t199) ∧ Aside0 (Kd.R (Kd.int .i64) 3 wc w.heap.size (fun k_ => some k_ ≠ (v201 : Value).ownBlock ∧ some k_ ≠ (v234 : Value).ownBlock ∧ some k_ ≠ (v238 : Value).ownBlock ∧ some k_ ≠ (v242 : Value).ownBlock ∧ some k_ ≠ ((.slice none 0 0) : Value).ownBlock) u15 x15_22) ∧ Aside0 (Kd.R (Kd.int .i64) 3 wc w.heap.size (fun k_ => some k_ ≠ (v201 : Value).ownBlock ∧ some k_ ≠ (u15 : Value).ownBlock ∧ some k_ ≠ (v238 : Value).ownBlock ∧ some k_ ≠ (v242 : Value).ownBlock ∧ some k_ ≠ ((.slice none 0 0) : Value).ownBlock) v234 t232) ∧ Aside0 (Kd.R (Kd.int .i64) 3 wc w.heap.size (fun k_ => some k_ ≠ (v201 : Value).ownBlock ∧ some k_ ≠ (u15 : Value).ownBlock ∧ some k_ ≠ (v234 : Value).ownBlock ∧ some k_ ≠ (v242 : Value).ownBlock ∧ some k_ ≠ ((.slice none 0 0) : Value).ownBlock) v238 t236) ∧ Aside0 (Kd.R (Kd.int .i64) 3 wc w.heap.size (fun k_ => some k_ ≠ (v201 : Value).ownBlock ∧ some k_ ≠ (u15 : Value).ownBlock ∧ some k_ ≠ (v234 : Value).ownBlock ∧ some k_ ≠ (v238 : Value).ownBlock ∧ some k_ ≠ ((.slice none 0 0) : Value).ownBlock) v242 t240) ∧ Aside0 (Kd.R (Kd.int .i64) 3 wc w.heap.size (fun k_ => some k_ ≠ (v201 : Value).ownBlock ∧ some k_ ≠ (u15 : Value).ownBlock ∧ some k_ ≠ (v234 : Value).ownBlock ∧ some k_ ≠ (v238 : Value).ownBlock ∧ some k_ ≠ (v242 : Value).ownBlock) (.slice none 0 0) ([] : List Int)) ∧ Aside0 (Below w.heap.size w wc))
                    case first =>
                      have H := HC60.out
                      clear HC60
                      by_cases c64 : a3 < 2
                      · as_aux_lemma =>
                          rw [if_pos c64] at H
                          have c64b0 : decide (a3 < 2) = true := decide_eq_true c64
                          clear c64
                          (first | rw [c64b0] | (simp only [i64_w, i32_w]; rw [c64b0]) | skip)
                          have H' := Aside0.mk H
                          clear H
                          go_wp2
                          go_meet
                          case rel => exact ⟨_, (true), (by first | rfl | (simp; done) | (simp [*]; done)), H', ⟨by have := HJ10.out; have := HJ15.out; have := HJ20.out; have := HJ22.out; first | omega | exact Nat.le_refl _⟩, ⟨by (with_reducible repeat (first | apply Kd.R_alloc | apply Kd.R_drewN | apply Kd.R_drew)); exact Kd.R_mono HO_13.out (fun _ hk => ⟨hk.1.1.1, ⟨hk.1.1.2, ⟨hk.1.2, ⟨hk.2, (by simp [Value.ownBlock])⟩⟩⟩⟩)⟩, ⟨by (with_reducible repeat (first | apply Kd.R_alloc | apply Kd.R_drewN | apply Kd.R_drew)); exact Kd.R_mono HO_15.out (fun _ hk => ⟨hk.1.1.1, ⟨hk.1.1.2, ⟨hk.1.2, ⟨hk.2, (by simp [Value.ownBlock])⟩⟩⟩⟩)⟩, ⟨by (with_reducible repeat (first | apply Kd.R_alloc | apply Kd.R_drewN | apply Kd.R_drew)); exact Kd.R_mono HO235.out (fun _ hk => ⟨hk.1.1.1.2, ⟨hk.1.1.2, ⟨hk.1.2, ⟨hk.2, (by simp [Value.ownBlock])⟩⟩⟩⟩)⟩, ⟨by (with_reducible repeat (first | apply Kd.R_alloc | apply Kd.R_drewN | apply Kd.R_drew)); exact Kd.R_mono HO239.out (fun _ hk => ⟨hk.1.1.1.2, ⟨hk.1.1.2, ⟨hk.1.2, ⟨hk.2, (by simp [Value.ownBlock])⟩⟩⟩⟩)⟩, ⟨by (with_reducible repeat (first | apply Kd.R_alloc | apply Kd.R_drewN | apply Kd.R_drew)); exact Kd.R_mono HO243.out (fun _ hk => ⟨hk.1.1.1.2, ⟨hk.1.1.2, ⟨hk.1.2, ⟨hk.2, (by simp [Value.ownBlock])⟩⟩⟩⟩)⟩, ⟨by first | exact Kd.R_nil _ _ _ _ _ | exact Kd.N_nil _ _ _ _ _ | exact Kd.V_nil _ _ _ _ _ | exact Kd.Q_nil _ _ _ _ _ | exact Kd.S_nil _ _ _ _ _⟩, ⟨by repeat (first | (with_reducible first | exact HB.out | apply below_alloc | apply pw_below_drewN | apply below_drew1) | exact HB.out)⟩⟩
                      · as_aux_lemma =>
                          rw [if_neg c64] at H
                          have c64b0 : decide (a3 < 2) = false := decide_eq_false c64
                          clear c64
                          (first | rw [c64b0] | (simp only [i64_w, i32_w]; rw [c64b0]) | skip)
                          have H' := Aside0.mk H
                          clear H
                          go_wp2
                          go_meet
                          case rel => exact ⟨_, (decide (a3 > 1000)), (by first | rfl | (simp; done) | (simp [*]; done)), H', ⟨by have := HJ10.out; have := HJ15.out; have := HJ20.out; have := HJ22.out; first | omega | exact Nat.le_refl _⟩, ⟨by (with_reducible repeat (first | apply Kd.R_alloc | apply Kd.R_drewN | apply Kd.R_drew)); exact Kd.R_mono HO_13.out (fun _ hk => ⟨hk.1.1.1, ⟨hk.1.1.2, ⟨hk.1.2, ⟨hk.2, (by simp [Value.ownBlock])⟩⟩⟩⟩)⟩, ⟨by (with_reducible repeat (first | apply Kd.R_alloc | apply Kd.R_drewN | apply Kd.R_drew)); exact Kd.R_mono HO_15.out (fun _ hk => ⟨hk.1.1.1, ⟨hk.1.1.2, ⟨hk.1.2, ⟨hk.2, (by simp [Value.ownBlock])⟩⟩⟩⟩)⟩, ⟨by (with_reducible repeat (first | apply Kd.R_alloc | apply Kd.R_drewN | apply Kd.R_drew)); exact Kd.R_mono HO235.out (fun _ hk => ⟨hk.1.1.1.2, ⟨hk.1.1.2, ⟨hk.1.2, ⟨hk.2, (by simp [Value.ownBlock])⟩⟩⟩⟩)⟩, ⟨by (with_reducible repeat (first | apply Kd.R_alloc | apply Kd.R_drewN | apply Kd.R_drew)); exact Kd.R_mono HO239.out (fun _ hk => ⟨hk.1.1.1.2, ⟨hk.1.1.2, ⟨hk.1.2, ⟨hk.2, (by simp [Value.ownBlock])⟩⟩⟩⟩)⟩, ⟨by (with_reducible repeat (first | apply Kd.R_alloc | apply Kd.R_drewN | apply Kd.R_drew)); exact Kd.R_mono HO243.out (fun _ hk => ⟨hk.1.1.1.2, ⟨hk.1.1.2, ⟨hk.1.2, ⟨hk.2, (by simp [Value.ownBlock])⟩⟩⟩⟩)⟩, ⟨by first | exact Kd.R_nil _ _ _ _ _ | exact Kd.N_nil _ _ _ _ _ | exact Kd.V_nil _ _ _ _ _ | exact Kd.Q_nil _ _ _ _ _ | exact Kd.S_nil _ _ _ _ _⟩, ⟨by repeat (first | (with_reducible first | exact HB.out | apply below_alloc | apply pw_below_drewN | apply below_drew1) | exact HB.out)⟩⟩
                    case rest =>
                      clear HC60
                      try clear c1
                      try clear c2
                      try clear p2
                      try clear q2
                      try clear hx2
                      try clear c3
                      try clear c4
                      try clear c5
                      try clear c6
                      try clear p6
                      try clear c7
                      try clear c8
                      try clear c13
                      try clear c14
                      try clear c14b0
                      try clear c14b1
                      try clear c17
                      try clear c17b0
                      try clear c17b1
                      try clear c18
                      try clear c18b0
                      try clear p20
                      try clear q20
                      try clear hx20
                      try clear p21
                      try clear q21
                      try clear hx21
                      try clear c22
                      try clear p22
                      try clear q22
                      try clear hx22
                      try clear c24
                      try clear c24b0
                      try clear c24b1
                      try clear c28
                      try clear c28b0
                      try clear c29
                      try clear c29b0
                      try clear c30
                      try clear c30b0
                      try clear c31
                      try clear c31b0
                      try clear c32
                      try clear c36
                      try clear c37
                      try clear c37b0
                      try clear c38
                      try clear c38b0
                      try clear c39
                      try clear c39b0
                      try clear c40
                      try clear c45
                      try clear c45b0
                      try clear c46
                      try clear c46b0
                      try clear c47
                      try clear c47b0
                      try clear c49
                      try clear c49b0
                      try clear c50
                      try clear c64
                      try clear c64b0
                      try clear p64
                      try clear hx209_0
                      try clear hx216_0
                      try clear hx223_0
                      try clear p2
                      try clear p20
                      try clear p209
                      try clear p21
                      try clear p216
                      try clear p22
                      try clear p223
                      try clear p6
                      try clear q2
                      try clear q20
                      try clear q209
                      try clear q21
                      try clear q216
                      try clear q22
                      try clear q223
                      obtain ⟨kq, x148_59, rfl, HA, HJ59, HO_13, HO_15, HO_24, HO_26, HO_28, HO_30, HB⟩ := hcut
                      cases kq with
                      | zero => exact absurd HA.out (by simp [bakelaw2_FluxCells.j7])
                      | succ kj59 =>
                        have H := HA.out
                        clear HA
                        simp only [bakelaw2_FluxCells.j7] at H
                        by_cases c65 : x148_59 = true
                        · subst c65
                          have H1 : (if t200 = x16_22 then ((slices_Equal_api_Track_int.f kj59 t199 x15_22).bind fun t244 => (if t244 = true then (if t233 = t237 then ((slices_Equal_int_int.f kj59 t232 t236).bind fun t245 => (if t245 = true then (if t241 = 1 then ((slices_Equal_api_Track_int.f kj59 t240 ([] : List Int)).bind fun t246 => (some t246)) else (some false)) else (some false))) else (some false)) else (some false))) else (some false)) = some r := by rw [if_pos rfl] at H; exact H
                          clear H
                          have H := H1
                          clear H1
                          by_cases c66 : t200 = x16_22
                          · rw [if_pos c66] at H
                            have c66b0 : (t200 == x16_22) = true := beq_iff_eq.mpr c66
                            have c66b1 : (t200 != x16_22) = false := bne_eq_false_iff_eq.mpr c66
                            clear c66
                            replace H := Option.bind_eq_some_iff.mp H
                            obtain ⟨t244, A670, H⟩ := H
                            replace H : (if t244 = true then (if t233 = t237 then ((slices_Equal_int_int.f kj59 t232 t236).bind fun t245 => (if t245 = true then (if t241 = 1 then ((slices_Equal_api_Track_int.f kj59 t240 ([] : List Int)).bind fun t246 => (some t246)) else (some false)) else (some false))) else (some false)) else (some false)) = some r := H
                            have A67 := Aside0.mk A670
                            clear A670
                            by_cases c68 : t244 = true
                            · subst c68
                              have H1 : (if t233 = t237 then ((slices_Equal_int_int.f kj59 t232 t236).bind fun t245 => (if t245 = true then (if t241 = 1 then ((slices_Equal_api_Track_int.f kj59 t240 ([] : List Int)).bind fun t246 => (some t246)) else (some false)) else (some false))) else (some false)) = some r := by rw [if_pos rfl] at H; exact H
                              clear H
                              have H := H1
                              clear H1
                              by_cases c69 : t233 = t237
                              · rw [if_pos c69] at H
                                have c69b0 : (t233 == t237) = true := beq_iff_eq.mpr c69
                                have c69b1 : (t233 != t237) = false := bne_eq_false_iff_eq.mpr c69
                                clear c69
                                replace H := Option.bind_eq_some_iff.mp H
                                obtain ⟨t245, A700, H⟩ := H
                                replace H : (if t245 = true then (if t241 = 1 then ((slices_Equal_api_Track_int.f kj59 t240 ([] : List Int)).bind fun t246 => (some t246)) else (some false)) else (some false)) = some r := H
                                have A70 := Aside0.mk A700
                                clear A700
                                by_cases c71 : t245 = true
                                · subst c71
                                  have H1 : (if t241 = 1 then ((slices_Equal_api_Track_int.f kj59 t240 ([] : List Int)).bind fun t246 => (some t246)) else (some false)) = some r := by rw [if_pos rfl] at H; exact H
                                  clear H
                                  have H := H1
                                  clear H1
                                  by_cases c72 : t241 = 1
                                  · as_aux_lemma =>
                                      rw [if_pos c72] at H
                                      have c72b0 : (t241 == 1) = true := beq_iff_eq.mpr c72
                                      have c72b1 : (t241 != 1) = false := bne_eq_false_iff_eq.mpr c72
                                      clear c72
                                      replace H := Option.bind_eq_some_iff.mp H
                                      obtain ⟨t246, A730, H⟩ := H
                                      replace H : (some t246) = some r := H
                                      have A73 := Aside0.mk A730
                                      clear A730
                                      obtain rfl := Option.some.inj H
                                      obtain ⟨Ao74, co74, eo74⟩ := Kd.R_slice HO_13.out
                                      subst eo74
                                      obtain ⟨Ao75, co75, eo75⟩ := Kd.R_slice HO_15.out
                                      subst eo75
                                      go_wp2_with (first | (go_at_call 40; (with_reducible refine (slices_Equal_api_Track_int.calls kj59 _ _ t199 _ _ x15_22 true _ ?side1 ?side2 ?side3 ?side4 A67.out).mono ?_); (case side1 => repeat (first | exact (Kd.R_reads' HO_13.out).2.2 | (with_reducible refine Kd.C_alloc ?_ _) | (with_reducible refine Kd.C_drewN ?_ _) | (with_reducible refine Kd.C_drew ?_))); (case side2 => exact (Kd.R_reads' HO_13.out).2.1); (case side3 => repeat (first | exact (Kd.R_reads' HO_15.out).2.2 | (with_reducible refine Kd.C_alloc ?_ _) | (with_reducible refine Kd.C_drewN ?_ _) | (with_reducible refine Kd.C_drew ?_))); (case side4 => exact (Kd.R_reads' HO_15.out).2.1); rintro e w' ⟨rfl, ⟨nd, rfl⟩⟩; obtain ⟨Ao76, co76, eo76⟩ := Kd.R_slice HO_24.out; subst eo76; obtain ⟨Ao77, co77, eo77⟩ := Kd.R_slice HO_26.out; subst eo77) | (go_at_call 35; (with_reducible refine (slices_Equal_int_int.calls kj59 _ _ t232 _ _ t236 true _ ?side1 ?side2 ?side3 ?side4 A70.out).mono ?_); (case side1 => repeat (first | exact (Kd.R_reads' HO_24.out).2.2 | (with_reducible refine Kd.C_alloc ?_ _) | (with_reducible refine Kd.C_drewN ?_ _) | (with_reducible refine Kd.C_drew ?_))); (case side2 => exact (Kd.R_reads' HO_24.out).2.1); (case side3 => repeat (first | exact (Kd.R_reads' HO_26.out).2.2 | (with_reducible refine Kd.C_alloc ?_ _) | (with_reducible refine Kd.C_drewN ?_ _) | (with_reducible refine Kd.C_drew ?_))); (case side4 => exact (Kd.R_reads' HO_26.out).2.1); rintro e w' ⟨rfl, ⟨nd, rfl⟩⟩; obtain ⟨Ao78, co78, eo78⟩ := Kd.R_slice HO_28.out; subst eo78) | (go_at_call 40; refine calls_of_args (args' := #[.slice Ao78 t240.length co78, .slice none ([] : List Int).length 0]) (by first | (rw [show ([] : List Int).length = 0 from (Kd.R_reads' HO_30.out).1.symm] <;> rfl) | rfl) ?_; (with_reducible refine (slices_Equal_api_Track_int.calls kj59 _ _ t240 _ _ ([] : List Int) t246 _ ?side1 ?side2 ?side3 ?side4 A73.out).mono ?_); (case side1 => repeat (first | exact (Kd.R_reads' HO_28.out).2.2 | (with_reducible refine Kd.C_alloc ?_ _) | (with_reducible refine Kd.C_drewN ?_ _) | (with_reducible refine Kd.C_drew ?_))); (case side2 => exact (Kd.R_reads' HO_28.out).2.1); (case side3 => repeat (first | exact (Kd.R_reads' HO_30.out).2.2 | (with_reducible refine Kd.C_alloc ?_ _) | (with_reducible refine Kd.C_drewN ?_ _) | (with_reducible refine Kd.C_drew ?_))); (case side4 => rw [show ([] : List Int).length = 0 from (Kd.R_reads' HO_30.out).1.symm]; exact (Kd.R_reads' HO_30.out).2.1); rintro e w' ⟨rfl, ⟨nd, rfl⟩⟩))
                                      go_ret
                                      exact ⟨by first | rfl | (simp [errW_none, errW_some] <;> rfl) | (simp [*, errW_none, errW_some] <;> rfl), by repeat (first | (with_reducible first | exact HB.out | apply below_alloc | apply pw_below_drewN | apply below_drew1) | exact HB.out)⟩
                                  · as_aux_lemma =>
                                      rw [if_neg c72] at H
                                      have c72b0 : (t241 == 1) = false := beq_eq_false_iff_ne.mpr c72
                                      have c72b1 : (t241 != 1) = true := bne_iff_ne.mpr c72
                                      obtain rfl := Option.some.inj H
                                      obtain ⟨Ao79, co79, eo79⟩ := Kd.R_slice HO_13.out
                                      subst eo79
                                      obtain ⟨Ao80, co80, eo80⟩ := Kd.R_slice HO_15.out
                                      subst eo80
                                      go_wp2_with (first | (go_at_call 40; (with_reducible refine (slices_Equal_api_Track_int.calls kj59 _ _ t199 _ _ x15_22 true _ ?side1 ?side2 ?side3 ?side4 A67.out).mono ?_); (case side1 => repeat (first | exact (Kd.R_reads' HO_13.out).2.2 | (with_reducible refine Kd.C_alloc ?_ _) | (with_reducible refine Kd.C_drewN ?_ _) | (with_reducible refine Kd.C_drew ?_))); (case side2 => exact (Kd.R_reads' HO_13.out).2.1); (case side3 => repeat (first | exact (Kd.R_reads' HO_15.out).2.2 | (with_reducible refine Kd.C_alloc ?_ _) | (with_reducible refine Kd.C_drewN ?_ _) | (with_reducible refine Kd.C_drew ?_))); (case side4 => exact (Kd.R_reads' HO_15.out).2.1); rintro e w' ⟨rfl, ⟨nd, rfl⟩⟩; obtain ⟨Ao81, co81, eo81⟩ := Kd.R_slice HO_24.out; subst eo81; obtain ⟨Ao82, co82, eo82⟩ := Kd.R_slice HO_26.out; subst eo82) | (go_at_call 35; (with_reducible refine (slices_Equal_int_int.calls kj59 _ _ t232 _ _ t236 true _ ?side1 ?side2 ?side3 ?side4 A70.out).mono ?_); (case side1 => repeat (first | exact (Kd.R_reads' HO_24.out).2.2 | (with_reducible refine Kd.C_alloc ?_ _) | (with_reducible refine Kd.C_drewN ?_ _) | (with_reducible refine Kd.C_drew ?_))); (case side2 => exact (Kd.R_reads' HO_24.out).2.1); (case side3 => repeat (first | exact (Kd.R_reads' HO_26.out).2.2 | (with_reducible refine Kd.C_alloc ?_ _) | (with_reducible refine Kd.C_drewN ?_ _) | (with_reducible refine Kd.C_drew ?_))); (case side4 => exact (Kd.R_reads' HO_26.out).2.1); rintro e w' ⟨rfl, ⟨nd, rfl⟩⟩))
                                      go_ret
                                      exact ⟨by first | rfl | (simp [errW_none, errW_some] <;> rfl) | (simp [*, errW_none, errW_some] <;> rfl), by repeat (first | (with_reducible first | exact HB.out | apply below_alloc | apply pw_below_drewN | apply below_drew1) | exact HB.out)⟩
                                · as_aux_lemma =>
                                    replace c71 := Bool.eq_false_iff.mpr c71
                                    subst c71
                                    have H1 : (some false) = some r := by rw [if_neg (show ¬ (false = true) by decide)] at H; exact H
                                    clear H
                                    have H := H1
                                    clear H1
                                    obtain rfl := Option.some.inj H
                                    obtain ⟨Ao83, co83, eo83⟩ := Kd.R_slice HO_13.out
                                    subst eo83
                                    obtain ⟨Ao84, co84, eo84⟩ := Kd.R_slice HO_15.out
                                    subst eo84
                                    go_wp2_with (first | (go_at_call 40; (with_reducible refine (slices_Equal_api_Track_int.calls kj59 _ _ t199 _ _ x15_22 true _ ?side1 ?side2 ?side3 ?side4 A67.out).mono ?_); (case side1 => repeat (first | exact (Kd.R_reads' HO_13.out).2.2 | (with_reducible refine Kd.C_alloc ?_ _) | (with_reducible refine Kd.C_drewN ?_ _) | (with_reducible refine Kd.C_drew ?_))); (case side2 => exact (Kd.R_reads' HO_13.out).2.1); (case side3 => repeat (first | exact (Kd.R_reads' HO_15.out).2.2 | (with_reducible refine Kd.C_alloc ?_ _) | (with_reducible refine Kd.C_drewN ?_ _) | (with_reducible refine Kd.C_drew ?_))); (case side4 => exact (Kd.R_reads' HO_15.out).2.1); rintro e w' ⟨rfl, ⟨nd, rfl⟩⟩; obtain ⟨Ao85, co85, eo85⟩ := Kd.R_slice HO_24.out; subst eo85; obtain ⟨Ao86, co86, eo86⟩ := Kd.R_slice HO_26.out; subst eo86) | (go_at_call 35; (with_reducible refine (slices_Equal_int_int.calls kj59 _ _ t232 _ _ t236 false _ ?side1 ?side2 ?side3 ?side4 A70.out).mono ?_); (case side1 => repeat (first | exact (Kd.R_reads' HO_24.out).2.2 | (with_reducible refine Kd.C_alloc ?_ _) | (with_reducible refine Kd.C_drewN ?_ _) | (with_reducible refine Kd.C_drew ?_))); (case side2 => exact (Kd.R_reads' HO_24.out).2.1); (case side3 => repeat (first | exact (Kd.R_reads' HO_26.out).2.2 | (with_reducible refine Kd.C_alloc ?_ _) | (with_reducible refine Kd.C_drewN ?_ _) | (with_reducible refine Kd.C_drew ?_))); (case side4 => exact (Kd.R_reads' HO_26.out).2.1); rintro e w' ⟨rfl, ⟨nd, rfl⟩⟩))
                                    go_ret
                                    exact ⟨by first | rfl | (simp [errW_none, errW_some] <;> rfl) | (simp [*, errW_none, errW_some] <;> rfl), by repeat (first | (with_reducible first | exact HB.out | apply below_alloc | apply pw_below_drewN | apply below_drew1) | exact HB.out)⟩
                              · as_aux_lemma =>
                                  rw [if_neg c69] at H
                                  have c69b0 : (t233 == t237) = false := beq_eq_false_iff_ne.mpr c69
                                  have c69b1 : (t233 != t237) = true := bne_iff_ne.mpr c69
                                  obtain rfl := Option.some.inj H
                                  obtain ⟨Ao87, co87, eo87⟩ := Kd.R_slice HO_13.out
                                  subst eo87
                                  obtain ⟨Ao88, co88, eo88⟩ := Kd.R_slice HO_15.out
                                  subst eo88
                                  go_wp2_with (first | (go_at_call 40; (with_reducible refine (slices_Equal_api_Track_int.calls kj59 _ _ t199 _ _ x15_22 true _ ?side1 ?side2 ?side3 ?side4 A67.out).mono ?_); (case side1 => repeat (first | exact (Kd.R_reads' HO_13.out).2.2 | (with_reducible refine Kd.C_alloc ?_ _) | (with_reducible refine Kd.C_drewN ?_ _) | (with_reducible refine Kd.C_drew ?_))); (case side2 => exact (Kd.R_reads' HO_13.out).2.1); (case side3 => repeat (first | exact (Kd.R_reads' HO_15.out).2.2 | (with_reducible refine Kd.C_alloc ?_ _) | (with_reducible refine Kd.C_drewN ?_ _) | (with_reducible refine Kd.C_drew ?_))); (case side4 => exact (Kd.R_reads' HO_15.out).2.1); rintro e w' ⟨rfl, ⟨nd, rfl⟩⟩))
                                  go_ret
                                  exact ⟨by first | rfl | (simp [errW_none, errW_some] <;> rfl) | (simp [*, errW_none, errW_some] <;> rfl), by repeat (first | (with_reducible first | exact HB.out | apply below_alloc | apply pw_below_drewN | apply below_drew1) | exact HB.out)⟩
                            · as_aux_lemma =>
                                replace c68 := Bool.eq_false_iff.mpr c68
                                subst c68
                                have H1 : (some false) = some r := by rw [if_neg (show ¬ (false = true) by decide)] at H; exact H
                                clear H
                                have H := H1
                                clear H1
                                obtain rfl := Option.some.inj H
                                obtain ⟨Ao89, co89, eo89⟩ := Kd.R_slice HO_13.out
                                subst eo89
                                obtain ⟨Ao90, co90, eo90⟩ := Kd.R_slice HO_15.out
                                subst eo90
                                go_wp2_with (first | (go_at_call 40; (with_reducible refine (slices_Equal_api_Track_int.calls kj59 _ _ t199 _ _ x15_22 false _ ?side1 ?side2 ?side3 ?side4 A67.out).mono ?_); (case side1 => repeat (first | exact (Kd.R_reads' HO_13.out).2.2 | (with_reducible refine Kd.C_alloc ?_ _) | (with_reducible refine Kd.C_drewN ?_ _) | (with_reducible refine Kd.C_drew ?_))); (case side2 => exact (Kd.R_reads' HO_13.out).2.1); (case side3 => repeat (first | exact (Kd.R_reads' HO_15.out).2.2 | (with_reducible refine Kd.C_alloc ?_ _) | (with_reducible refine Kd.C_drewN ?_ _) | (with_reducible refine Kd.C_drew ?_))); (case side4 => exact (Kd.R_reads' HO_15.out).2.1); rintro e w' ⟨rfl, ⟨nd, rfl⟩⟩))
                                go_ret
                                exact ⟨by first | rfl | (simp [errW_none, errW_some] <;> rfl) | (simp [*, errW_none, errW_some] <;> rfl), by repeat (first | (with_reducible first | exact HB.out | apply below_alloc | apply pw_below_drewN | apply below_drew1) | exact HB.out)⟩
                          · as_aux_lemma =>
                              rw [if_neg c66] at H
                              have c66b0 : (t200 == x16_22) = false := beq_eq_false_iff_ne.mpr c66
                              have c66b1 : (t200 != x16_22) = true := bne_iff_ne.mpr c66
                              obtain rfl := Option.some.inj H
                              go_wp2
                              go_ret
                              exact ⟨by first | rfl | (simp [errW_none, errW_some] <;> rfl) | (simp [*, errW_none, errW_some] <;> rfl), by repeat (first | (with_reducible first | exact HB.out | apply below_alloc | apply pw_below_drewN | apply below_drew1) | exact HB.out)⟩
                        · replace c65 := Bool.eq_false_iff.mpr c65
                          subst c65
                          have H1 : (if (l5.length : Int) > 40000 then (if t200 = x16_22 then ((slices_Equal_api_Track_int.f kj59 t199 x15_22).bind fun t247 => (if t247 = true then (if t233 = t237 then ((slices_Equal_int_int.f kj59 t232 t236).bind fun t248 => (if t248 = true then (if t241 = 2 then ((slices_Equal_api_Track_int.f kj59 t240 ([] : List Int)).bind fun t249 => (some t249)) else (some false)) else (some false))) else (some false)) else (some false))) else (some false)) else ((slices_ContainsFunc_bakelaw2_FluxCells_1.f kj59 l5).bind fun t250 => (if t250 = true then (if t200 = x16_22 then ((slices_Equal_api_Track_int.f kj59 t199 x15_22).bind fun t251 => (if t251 = true then (if t233 = t237 then ((slices_Equal_int_int.f kj59 t232 t236).bind fun t252 => (if t252 = true then (if t241 = 3 then ((slices_Equal_api_Track_int.f kj59 t240 ([] : List Int)).bind fun t253 => (some t253)) else (some false)) else (some false))) else (some false)) else (some false))) else (some false)) else (bakelaw2_FluxCells.l3 kj59 a3 t199 t200 x15_22 x16_22 t232 t233 t236 t237 t240 t241 ([] : List Int) 0 l5 (l5.length : Int) 0)))) = some r := by rw [if_neg (show ¬ (false = true) by decide)] at H; exact H
                          clear H
                          have H := H1
                          clear H1
                          by_cases c91 : (l5.length : Int) > 40000
                          · rw [if_pos c91] at H
                            have c91b0 : decide (40000 < (l5.length : Int)) = true := decide_eq_true c91
                            have c91b1 : decide (40000 < l5.length) = true := decide_eq_true (by omega)
                            clear c91
                            by_cases c92 : t200 = x16_22
                            · rw [if_pos c92] at H
                              have c92b0 : (t200 == x16_22) = true := beq_iff_eq.mpr c92
                              have c92b1 : (t200 != x16_22) = false := bne_eq_false_iff_eq.mpr c92
                              clear c92
                              replace H := Option.bind_eq_some_iff.mp H
                              obtain ⟨t247, A930, H⟩ := H
                              replace H : (if t247 = true then (if t233 = t237 then ((slices_Equal_int_int.f kj59 t232 t236).bind fun t248 => (if t248 = true then (if t241 = 2 then ((slices_Equal_api_Track_int.f kj59 t240 ([] : List Int)).bind fun t249 => (some t249)) else (some false)) else (some false))) else (some false)) else (some false)) = some r := H
                              have A93 := Aside0.mk A930
                              clear A930
                              by_cases c94 : t247 = true
                              · subst c94
                                have H1 : (if t233 = t237 then ((slices_Equal_int_int.f kj59 t232 t236).bind fun t248 => (if t248 = true then (if t241 = 2 then ((slices_Equal_api_Track_int.f kj59 t240 ([] : List Int)).bind fun t249 => (some t249)) else (some false)) else (some false))) else (some false)) = some r := by rw [if_pos rfl] at H; exact H
                                clear H
                                have H := H1
                                clear H1
                                by_cases c95 : t233 = t237
                                · rw [if_pos c95] at H
                                  have c95b0 : (t233 == t237) = true := beq_iff_eq.mpr c95
                                  have c95b1 : (t233 != t237) = false := bne_eq_false_iff_eq.mpr c95
                                  clear c95
                                  replace H := Option.bind_eq_some_iff.mp H
                                  obtain ⟨t248, A960, H⟩ := H
                                  replace H : (if t248 = true then (if t241 = 2 then ((slices_Equal_api_Track_int.f kj59 t240 ([] : List Int)).bind fun t249 => (some t249)) else (some false)) else (some false)) = some r := H
                                  have A96 := Aside0.mk A960
                                  clear A960
                                  by_cases c97 : t248 = true
                                  · subst c97
                                    have H1 : (if t241 = 2 then ((slices_Equal_api_Track_int.f kj59 t240 ([] : List Int)).bind fun t249 => (some t249)) else (some false)) = some r := by rw [if_pos rfl] at H; exact H
                                    clear H
                                    have H := H1
                                    clear H1
                                    by_cases c98 : t241 = 2
                                    · as_aux_lemma =>
                                        rw [if_pos c98] at H
                                        have c98b0 : (t241 == 2) = true := beq_iff_eq.mpr c98
                                        have c98b1 : (t241 != 2) = false := bne_eq_false_iff_eq.mpr c98
                                        clear c98
                                        replace H := Option.bind_eq_some_iff.mp H
                                        obtain ⟨t249, A990, H⟩ := H
                                        replace H : (some t249) = some r := H
                                        have A99 := Aside0.mk A990
                                        clear A990
                                        obtain rfl := Option.some.inj H
                                        obtain ⟨Ao100, co100, eo100⟩ := Kd.R_slice HO_13.out
                                        subst eo100
                                        obtain ⟨Ao101, co101, eo101⟩ := Kd.R_slice HO_15.out
                                        subst eo101
                                        go_wp2_with (first | (go_at_call 40; (with_reducible refine (slices_Equal_api_Track_int.calls kj59 _ _ t199 _ _ x15_22 true _ ?side1 ?side2 ?side3 ?side4 A93.out).mono ?_); (case side1 => repeat (first | exact (Kd.R_reads' HO_13.out).2.2 | (with_reducible refine Kd.C_alloc ?_ _) | (with_reducible refine Kd.C_drewN ?_ _) | (with_reducible refine Kd.C_drew ?_))); (case side2 => exact (Kd.R_reads' HO_13.out).2.1); (case side3 => repeat (first | exact (Kd.R_reads' HO_15.out).2.2 | (with_reducible refine Kd.C_alloc ?_ _) | (with_reducible refine Kd.C_drewN ?_ _) | (with_reducible refine Kd.C_drew ?_))); (case side4 => exact (Kd.R_reads' HO_15.out).2.1); rintro e w' ⟨rfl, ⟨nd, rfl⟩⟩; obtain ⟨Ao102, co102, eo102⟩ := Kd.R_slice HO_24.out; subst eo102; obtain ⟨Ao103, co103, eo103⟩ := Kd.R_slice HO_26.out; subst eo103) | (go_at_call 35; (with_reducible refine (slices_Equal_int_int.calls kj59 _ _ t232 _ _ t236 true _ ?side1 ?side2 ?side3 ?side4 A96.out).mono ?_); (case side1 => repeat (first | exact (Kd.R_reads' HO_24.out).2.2 | (with_reducible refine Kd.C_alloc ?_ _) | (with_reducible refine Kd.C_drewN ?_ _) | (with_reducible refine Kd.C_drew ?_))); (case side2 => exact (Kd.R_reads' HO_24.out).2.1); (case side3 => repeat (first | exact (Kd.R_reads' HO_26.out).2.2 | (with_reducible refine Kd.C_alloc ?_ _) | (with_reducible refine Kd.C_drewN ?_ _) | (with_reducible refine Kd.C_drew ?_))); (case side4 => exact (Kd.R_reads' HO_26.out).2.1); rintro e w' ⟨rfl, ⟨nd, rfl⟩⟩; obtain ⟨Ao104, co104, eo104⟩ := Kd.R_slice HO_28.out; subst eo104) | (go_at_call 40; refine calls_of_args (args' := #[.slice Ao104 t240.length co104, .slice none ([] : List Int).length 0]) (by first | (rw [show ([] : List Int).length = 0 from (Kd.R_reads' HO_30.out).1.symm] <;> rfl) | rfl) ?_; (with_reducible refine (slices_Equal_api_Track_int.calls kj59 _ _ t240 _ _ ([] : List Int) t249 _ ?side1 ?side2 ?side3 ?side4 A99.out).mono ?_); (case side1 => repeat (first | exact (Kd.R_reads' HO_28.out).2.2 | (with_reducible refine Kd.C_alloc ?_ _) | (with_reducible refine Kd.C_drewN ?_ _) | (with_reducible refine Kd.C_drew ?_))); (case side2 => exact (Kd.R_reads' HO_28.out).2.1); (case side3 => repeat (first | exact (Kd.R_reads' HO_30.out).2.2 | (with_reducible refine Kd.C_alloc ?_ _) | (with_reducible refine Kd.C_drewN ?_ _) | (with_reducible refine Kd.C_drew ?_))); (case side4 => rw [show ([] : List Int).length = 0 from (Kd.R_reads' HO_30.out).1.symm]; exact (Kd.R_reads' HO_30.out).2.1); rintro e w' ⟨rfl, ⟨nd, rfl⟩⟩))
                                        go_ret
                                        exact ⟨by first | rfl | (simp [errW_none, errW_some] <;> rfl) | (simp [*, errW_none, errW_some] <;> rfl), by repeat (first | (with_reducible first | exact HB.out | apply below_alloc | apply pw_below_drewN | apply below_drew1) | exact HB.out)⟩
                                    · as_aux_lemma =>
                                        rw [if_neg c98] at H
                                        have c98b0 : (t241 == 2) = false := beq_eq_false_iff_ne.mpr c98
                                        have c98b1 : (t241 != 2) = true := bne_iff_ne.mpr c98
                                        obtain rfl := Option.some.inj H
                                        obtain ⟨Ao105, co105, eo105⟩ := Kd.R_slice HO_13.out
                                        subst eo105
                                        obtain ⟨Ao106, co106, eo106⟩ := Kd.R_slice HO_15.out
                                        subst eo106
                                        go_wp2_with (first | (go_at_call 40; (with_reducible refine (slices_Equal_api_Track_int.calls kj59 _ _ t199 _ _ x15_22 true _ ?side1 ?side2 ?side3 ?side4 A93.out).mono ?_); (case side1 => repeat (first | exact (Kd.R_reads' HO_13.out).2.2 | (with_reducible refine Kd.C_alloc ?_ _) | (with_reducible refine Kd.C_drewN ?_ _) | (with_reducible refine Kd.C_drew ?_))); (case side2 => exact (Kd.R_reads' HO_13.out).2.1); (case side3 => repeat (first | exact (Kd.R_reads' HO_15.out).2.2 | (with_reducible refine Kd.C_alloc ?_ _) | (with_reducible refine Kd.C_drewN ?_ _) | (with_reducible refine Kd.C_drew ?_))); (case side4 => exact (Kd.R_reads' HO_15.out).2.1); rintro e w' ⟨rfl, ⟨nd, rfl⟩⟩; obtain ⟨Ao107, co107, eo107⟩ := Kd.R_slice HO_24.out; subst eo107; obtain ⟨Ao108, co108, eo108⟩ := Kd.R_slice HO_26.out; subst eo108) | (go_at_call 35; (with_reducible refine (slices_Equal_int_int.calls kj59 _ _ t232 _ _ t236 true _ ?side1 ?side2 ?side3 ?side4 A96.out).mono ?_); (case side1 => repeat (first | exact (Kd.R_reads' HO_24.out).2.2 | (with_reducible refine Kd.C_alloc ?_ _) | (with_reducible refine Kd.C_drewN ?_ _) | (with_reducible refine Kd.C_drew ?_))); (case side2 => exact (Kd.R_reads' HO_24.out).2.1); (case side3 => repeat (first | exact (Kd.R_reads' HO_26.out).2.2 | (with_reducible refine Kd.C_alloc ?_ _) | (with_reducible refine Kd.C_drewN ?_ _) | (with_reducible refine Kd.C_drew ?_))); (case side4 => exact (Kd.R_reads' HO_26.out).2.1); rintro e w' ⟨rfl, ⟨nd, rfl⟩⟩))
                                        go_ret
                                        exact ⟨by first | rfl | (simp [errW_none, errW_some] <;> rfl) | (simp [*, errW_none, errW_some] <;> rfl), by repeat (first | (with_reducible first | exact HB.out | apply below_alloc | apply pw_below_drewN | apply below_drew1) | exact HB.out)⟩
                                  · as_aux_lemma =>
                                      replace c97 := Bool.eq_false_iff.mpr c97
                                      subst c97
                                      have H1 : (some false) = some r := by rw [if_neg (show ¬ (false = true) by decide)] at H; exact H
                                      clear H
                                      have H := H1
                                      clear H1
                                      obtain rfl := Option.some.inj H
                                      obtain ⟨Ao109, co109, eo109⟩ := Kd.R_slice HO_13.out
                                      subst eo109
                                      obtain ⟨Ao110, co110, eo110⟩ := Kd.R_slice HO_15.out
                                      subst eo110
                                      go_wp2_with (first | (go_at_call 40; (with_reducible refine (slices_Equal_api_Track_int.calls kj59 _ _ t199 _ _ x15_22 true _ ?side1 ?side2 ?side3 ?side4 A93.out).mono ?_); (case side1 => repeat (first | exact (Kd.R_reads' HO_13.out).2.2 | (with_reducible refine Kd.C_alloc ?_ _) | (with_reducible refine Kd.C_drewN ?_ _) | (with_reducible refine Kd.C_drew ?_))); (case side2 => exact (Kd.R_reads' HO_13.out).2.1); (case side3 => repeat (first | exact (Kd.R_reads' HO_15.out).2.2 | (with_reducible refine Kd.C_alloc ?_ _) | (with_reducible refine Kd.C_drewN ?_ _) | (with_reducible refine Kd.C_drew ?_))); (case side4 => exact (Kd.R_reads' HO_15.out).2.1); rintro e w' ⟨rfl, ⟨nd, rfl⟩⟩; obtain ⟨Ao111, co111, eo111⟩ := Kd.R_slice HO_24.out; subst eo111; obtain ⟨Ao112, co112, eo112⟩ := Kd.R_slice HO_26.out; subst eo112) | (go_at_call 35; (with_reducible refine (slices_Equal_int_int.calls kj59 _ _ t232 _ _ t236 false _ ?side1 ?side2 ?side3 ?side4 A96.out).mono ?_); (case side1 => repeat (first | exact (Kd.R_reads' HO_24.out).2.2 | (with_reducible refine Kd.C_alloc ?_ _) | (with_reducible refine Kd.C_drewN ?_ _) | (with_reducible refine Kd.C_drew ?_))); (case side2 => exact (Kd.R_reads' HO_24.out).2.1); (case side3 => repeat (first | exact (Kd.R_reads' HO_26.out).2.2 | (with_reducible refine Kd.C_alloc ?_ _) | (with_reducible refine Kd.C_drewN ?_ _) | (with_reducible refine Kd.C_drew ?_))); (case side4 => exact (Kd.R_reads' HO_26.out).2.1); rintro e w' ⟨rfl, ⟨nd, rfl⟩⟩))
                                      go_ret
                                      exact ⟨by first | rfl | (simp [errW_none, errW_some] <;> rfl) | (simp [*, errW_none, errW_some] <;> rfl), by repeat (first | (with_reducible first | exact HB.out | apply below_alloc | apply pw_below_drewN | apply below_drew1) | exact HB.out)⟩
                                · as_aux_lemma =>
                                    rw [if_neg c95] at H
                                    have c95b0 : (t233 == t237) = false := beq_eq_false_iff_ne.mpr c95
                                    have c95b1 : (t233 != t237) = true := bne_iff_ne.mpr c95
                                    obtain rfl := Option.some.inj H
                                    obtain ⟨Ao113, co113, eo113⟩ := Kd.R_slice HO_13.out
                                    subst eo113
                                    obtain ⟨Ao114, co114, eo114⟩ := Kd.R_slice HO_15.out
                                    subst eo114
                                    go_wp2_with (first | (go_at_call 40; (with_reducible refine (slices_Equal_api_Track_int.calls kj59 _ _ t199 _ _ x15_22 true _ ?side1 ?side2 ?side3 ?side4 A93.out).mono ?_); (case side1 => repeat (first | exact (Kd.R_reads' HO_13.out).2.2 | (with_reducible refine Kd.C_alloc ?_ _) | (with_reducible refine Kd.C_drewN ?_ _) | (with_reducible refine Kd.C_drew ?_))); (case side2 => exact (Kd.R_reads' HO_13.out).2.1); (case side3 => repeat (first | exact (Kd.R_reads' HO_15.out).2.2 | (with_reducible refine Kd.C_alloc ?_ _) | (with_reducible refine Kd.C_drewN ?_ _) | (with_reducible refine Kd.C_drew ?_))); (case side4 => exact (Kd.R_reads' HO_15.out).2.1); rintro e w' ⟨rfl, ⟨nd, rfl⟩⟩))
                                    go_ret
                                    exact ⟨by first | rfl | (simp [errW_none, errW_some] <;> rfl) | (simp [*, errW_none, errW_some] <;> rfl), by repeat (first | (with_reducible first | exact HB.out | apply below_alloc | apply pw_below_drewN | apply below_drew1) | exact HB.out)⟩
                              · as_aux_lemma =>
                                  replace c94 := Bool.eq_false_iff.mpr c94
                                  subst c94
                                  have H1 : (some false) = some r := by rw [if_neg (show ¬ (false = true) by decide)] at H; exact H
                                  clear H
                                  have H := H1
                                  clear H1
                                  obtain rfl := Option.some.inj H
                                  obtain ⟨Ao115, co115, eo115⟩ := Kd.R_slice HO_13.out
                                  subst eo115
                                  obtain ⟨Ao116, co116, eo116⟩ := Kd.R_slice HO_15.out
                                  subst eo116
                                  go_wp2_with (first | (go_at_call 40; (with_reducible refine (slices_Equal_api_Track_int.calls kj59 _ _ t199 _ _ x15_22 false _ ?side1 ?side2 ?side3 ?side4 A93.out).mono ?_); (case side1 => repeat (first | exact (Kd.R_reads' HO_13.out).2.2 | (with_reducible refine Kd.C_alloc ?_ _) | (with_reducible refine Kd.C_drewN ?_ _) | (with_reducible refine Kd.C_drew ?_))); (case side2 => exact (Kd.R_reads' HO_13.out).2.1); (case side3 => repeat (first | exact (Kd.R_reads' HO_15.out).2.2 | (with_reducible refine Kd.C_alloc ?_ _) | (with_reducible refine Kd.C_drewN ?_ _) | (with_reducible refine Kd.C_drew ?_))); (case side4 => exact (Kd.R_reads' HO_15.out).2.1); rintro e w' ⟨rfl, ⟨nd, rfl⟩⟩))
                                  go_ret
                                  exact ⟨by first | rfl | (simp [errW_none, errW_some] <;> rfl) | (simp [*, errW_none, errW_some] <;> rfl), by repeat (first | (with_reducible first | exact HB.out | apply below_alloc | apply pw_below_drewN | apply below_drew1) | exact HB.out)⟩
                            · as_aux_lemma =>
                                rw [if_neg c92] at H
                                have c92b0 : (t200 == x16_22) = false := beq_eq_false_iff_ne.mpr c92
                                have c92b1 : (t200 != x16_22) = true := bne_iff_ne.mpr c92
                                obtain rfl := Option.some.inj H
                                go_wp2
                                go_ret
                                exact ⟨by first | rfl | (simp [errW_none, errW_some] <;> rfl) | (simp [*, errW_none, errW_some] <;> rfl), by repeat (first | (with_reducible first | exact HB.out | apply below_alloc | apply pw_below_drewN | apply below_drew1) | exact HB.out)⟩
                          · rw [if_neg c91] at H
                            have c91b0 : decide (40000 < (l5.length : Int)) = false := decide_eq_false c91
                            have c91b1 : decide (40000 < l5.length) = false := decide_eq_false (by omega)
                            clear c91
                            replace H := Option.bind_eq_some_iff.mp H
                            obtain ⟨t250, A1170, H⟩ := H
                            replace H : (if t250 = true then (if t200 = x16_22 then ((slices_Equal_api_Track_int.f kj59 t199 x15_22).bind fun t251 => (if t251 = true then (if t233 = t237 then ((slices_Equal_int_int.f kj59 t232 t236).bind fun t252 => (if t252 = true then (if t241 = 3 then ((slices_Equal_api_Track_int.f kj59 t240 ([] : List Int)).bind fun t253 => (some t253)) else (some false)) else (some false))) else (some false)) else (some false))) else (some false)) else (bakelaw2_FluxCells.l3 kj59 a3 t199 t200 x15_22 x16_22 t232 t233 t236 t237 t240 t241 ([] : List Int) 0 l5 (l5.length : Int) 0)) = some r := H
                            have A117 := Aside0.mk A1170
                            clear A1170
                            by_cases c118 : t250 = true
                            · subst c118
                              have H1 : (if t200 = x16_22 then ((slices_Equal_api_Track_int.f kj59 t199 x15_22).bind fun t251 => (if t251 = true then (if t233 = t237 then ((slices_Equal_int_int.f kj59 t232 t236).bind fun t252 => (if t252 = true then (if t241 = 3 then ((slices_Equal_api_Track_int.f kj59 t240 ([] : List Int)).bind fun t253 => (some t253)) else (some false)) else (some false))) else (some false)) else (some false))) else (some false)) = some r := by rw [if_pos rfl] at H; exact H
                              clear H
                              have H := H1
                              clear H1
                              by_cases c119 : t200 = x16_22
                              · rw [if_pos c119] at H
                                have c119b0 : (t200 == x16_22) = true := beq_iff_eq.mpr c119
                                have c119b1 : (t200 != x16_22) = false := bne_eq_false_iff_eq.mpr c119
                                clear c119
                                replace H := Option.bind_eq_some_iff.mp H
                                obtain ⟨t251, A1200, H⟩ := H
                                replace H : (if t251 = true then (if t233 = t237 then ((slices_Equal_int_int.f kj59 t232 t236).bind fun t252 => (if t252 = true then (if t241 = 3 then ((slices_Equal_api_Track_int.f kj59 t240 ([] : List Int)).bind fun t253 => (some t253)) else (some false)) else (some false))) else (some false)) else (some false)) = some r := H
                                have A120 := Aside0.mk A1200
                                clear A1200
                                by_cases c121 : t251 = true
                                · subst c121
                                  have H1 : (if t233 = t237 then ((slices_Equal_int_int.f kj59 t232 t236).bind fun t252 => (if t252 = true then (if t241 = 3 then ((slices_Equal_api_Track_int.f kj59 t240 ([] : List Int)).bind fun t253 => (some t253)) else (some false)) else (some false))) else (some false)) = some r := by rw [if_pos rfl] at H; exact H
                                  clear H
                                  have H := H1
                                  clear H1
                                  by_cases c122 : t233 = t237
                                  · rw [if_pos c122] at H
                                    have c122b0 : (t233 == t237) = true := beq_iff_eq.mpr c122
                                    have c122b1 : (t233 != t237) = false := bne_eq_false_iff_eq.mpr c122
                                    clear c122
                                    replace H := Option.bind_eq_some_iff.mp H
                                    obtain ⟨t252, A1230, H⟩ := H
                                    replace H : (if t252 = true then (if t241 = 3 then ((slices_Equal_api_Track_int.f kj59 t240 ([] : List Int)).bind fun t253 => (some t253)) else (some false)) else (some false)) = some r := H
                                    have A123 := Aside0.mk A1230
                                    clear A1230
                                    by_cases c124 : t252 = true
                                    · subst c124
                                      have H1 : (if t241 = 3 then ((slices_Equal_api_Track_int.f kj59 t240 ([] : List Int)).bind fun t253 => (some t253)) else (some false)) = some r := by rw [if_pos rfl] at H; exact H
                                      clear H
                                      have H := H1
                                      clear H1
                                      by_cases c125 : t241 = 3
                                      · as_aux_lemma =>
                                          rw [if_pos c125] at H
                                          have c125b0 : (t241 == 3) = true := beq_iff_eq.mpr c125
                                          have c125b1 : (t241 != 3) = false := bne_eq_false_iff_eq.mpr c125
                                          clear c125
                                          replace H := Option.bind_eq_some_iff.mp H
                                          obtain ⟨t253, A1260, H⟩ := H
                                          replace H : (some t253) = some r := H
                                          have A126 := Aside0.mk A1260
                                          clear A1260
                                          obtain rfl := Option.some.inj H
                                          go_wp2_with (first | ((with_reducible refine gate_callee (f := 81) rfl ?_); refine goesL_ (some 161) rfl rfl Try.func81 (by kernel_rfl) rfl #[.slice A5 l5.length c5, .func (.func 82) #[] #[]] rfl (by (try simp only [List.map_toArray, List.map_cons, List.map_nil]); first | done | rfl | (simp only [List.length_drop, List.length_take]; rfl)) ?_; (with_reducible refine (slices_ContainsFunc_bakelaw2_FluxCells_1.calls kj59 _ _ l5 true _ ?side1 ?side2 A117.out).mono ?_); (case side1 => repeat (first | exact (Kd.C_below HR5.out HB.out) | (with_reducible refine Kd.C_alloc ?_ _) | (with_reducible refine Kd.C_drewN ?_ _) | (with_reducible refine Kd.C_drew ?_))); (case side2 => exact HC5.out); rintro e w' ⟨rfl, ⟨nd, rfl⟩⟩; refine ⟨_, rfl, ?_⟩; obtain ⟨Ao127, co127, eo127⟩ := Kd.R_slice HO_13.out; subst eo127; obtain ⟨Ao128, co128, eo128⟩ := Kd.R_slice HO_15.out; subst eo128) | (go_at_call 40; (with_reducible refine (slices_Equal_api_Track_int.calls kj59 _ _ t199 _ _ x15_22 true _ ?side1 ?side2 ?side3 ?side4 A120.out).mono ?_); (case side1 => repeat (first | exact (Kd.R_reads' HO_13.out).2.2 | (with_reducible refine Kd.C_alloc ?_ _) | (with_reducible refine Kd.C_drewN ?_ _) | (with_reducible refine Kd.C_drew ?_))); (case side2 => exact (Kd.R_reads' HO_13.out).2.1); (case side3 => repeat (first | exact (Kd.R_reads' HO_15.out).2.2 | (with_reducible refine Kd.C_alloc ?_ _) | (with_reducible refine Kd.C_drewN ?_ _) | (with_reducible refine Kd.C_drew ?_))); (case side4 => exact (Kd.R_reads' HO_15.out).2.1); rintro e w' ⟨rfl, ⟨nd, rfl⟩⟩; obtain ⟨Ao129, co129, eo129⟩ := Kd.R_slice HO_24.out; subst eo129; obtain ⟨Ao130, co130, eo130⟩ := Kd.R_slice HO_26.out; subst eo130) | (go_at_call 35; (with_reducible refine (slices_Equal_int_int.calls kj59 _ _ t232 _ _ t236 true _ ?side1 ?side2 ?side3 ?side4 A123.out).mono ?_); (case side1 => repeat (first | exact (Kd.R_reads' HO_24.out).2.2 | (with_reducible refine Kd.C_alloc ?_ _) | (with_reducible refine Kd.C_drewN ?_ _) | (with_reducible refine Kd.C_drew ?_))); (case side2 => exact (Kd.R_reads' HO_24.out).2.1); (case side3 => repeat (first | exact (Kd.R_reads' HO_26.out).2.2 | (with_reducible refine Kd.C_alloc ?_ _) | (with_reducible refine Kd.C_drewN ?_ _) | (with_reducible refine Kd.C_drew ?_))); (case side4 => exact (Kd.R_reads' HO_26.out).2.1); rintro e w' ⟨rfl, ⟨nd, rfl⟩⟩; obtain ⟨Ao131, co131, eo131⟩ := Kd.R_slice HO_28.out; subst eo131) | (go_at_call 40; refine calls_of_args (args' := #[.slice Ao131 t240.length co131, .slice none ([] : List Int).length 0]) (by first | (rw [show ([] : List Int).length = 0 from (Kd.R_reads' HO_30.out).1.symm] <;> rfl) | rfl) ?_; (with_reducible refine (slices_Equal_api_Track_int.calls kj59 _ _ t240 _ _ ([] : List Int) t253 _ ?side1 ?side2 ?side3 ?side4 A126.out).mono ?_); (case side1 => repeat (first | exact (Kd.R_reads' HO_28.out).2.2 | (with_reducible refine Kd.C_alloc ?_ _) | (with_reducible refine Kd.C_drewN ?_ _) | (with_reducible refine Kd.C_drew ?_))); (case side2 => exact (Kd.R_reads' HO_28.out).2.1); (case side3 => repeat (first | exact (Kd.R_reads' HO_30.out).2.2 | (with_reducible refine Kd.C_alloc ?_ _) | (with_reducible refine Kd.C_drewN ?_ _) | (with_reducible refine Kd.C_drew ?_))); (case side4 => rw [show ([] : List Int).length = 0 from (Kd.R_reads' HO_30.out).1.symm]; exact (Kd.R_reads' HO_30.out).2.1); rintro e w' ⟨rfl, ⟨nd, rfl⟩⟩))
                                          go_ret
                                          exact ⟨by first | rfl | (simp [errW_none, errW_some] <;> rfl) | (simp [*, errW_none, errW_some] <;> rfl), by repeat (first | (with_reducible first | exact HB.out | apply below_alloc | apply pw_below_drewN | apply below_drew1) | exact HB.out)⟩
                                      · as_aux_lemma =>
                                          rw [if_neg c125] at H
                                          have c125b0 : (t241 == 3) = false := beq_eq_false_iff_ne.mpr c125
                                          have c125b1 : (t241 != 3) = true := bne_iff_ne.mpr c125
                                          obtain rfl := Option.some.inj H
                                          go_wp2_with (first | ((with_reducible refine gate_callee (f := 81) rfl ?_); refine goesL_ (some 161) rfl rfl Try.func81 (by kernel_rfl) rfl #[.slice A5 l5.length c5, .func (.func 82) #[] #[]] rfl (by (try simp only [List.map_toArray, List.map_cons, List.map_nil]); first | done | rfl | (simp only [List.length_drop, List.length_take]; rfl)) ?_; (with_reducible refine (slices_ContainsFunc_bakelaw2_FluxCells_1.calls kj59 _ _ l5 true _ ?side1 ?side2 A117.out).mono ?_); (case side1 => repeat (first | exact (Kd.C_below HR5.out HB.out) | (with_reducible refine Kd.C_alloc ?_ _) | (with_reducible refine Kd.C_drewN ?_ _) | (with_reducible refine Kd.C_drew ?_))); (case side2 => exact HC5.out); rintro e w' ⟨rfl, ⟨nd, rfl⟩⟩; refine ⟨_, rfl, ?_⟩; obtain ⟨Ao132, co132, eo132⟩ := Kd.R_slice HO_13.out; subst eo132; obtain ⟨Ao133, co133, eo133⟩ := Kd.R_slice HO_15.out; subst eo133) | (go_at_call 40; (with_reducible refine (slices_Equal_api_Track_int.calls kj59 _ _ t199 _ _ x15_22 true _ ?side1 ?side2 ?side3 ?side4 A120.out).mono ?_); (case side1 => repeat (first | exact (Kd.R_reads' HO_13.out).2.2 | (with_reducible refine Kd.C_alloc ?_ _) | (with_reducible refine Kd.C_drewN ?_ _) | (with_reducible refine Kd.C_drew ?_))); (case side2 => exact (Kd.R_reads' HO_13.out).2.1); (case side3 => repeat (first | exact (Kd.R_reads' HO_15.out).2.2 | (with_reducible refine Kd.C_alloc ?_ _) | (with_reducible refine Kd.C_drewN ?_ _) | (with_reducible refine Kd.C_drew ?_))); (case side4 => exact (Kd.R_reads' HO_15.out).2.1); rintro e w' ⟨rfl, ⟨nd, rfl⟩⟩; obtain ⟨Ao134, co134, eo134⟩ := Kd.R_slice HO_24.out; subst eo134; obtain ⟨Ao135, co135, eo135⟩ := Kd.R_slice HO_26.out; subst eo135) | (go_at_call 35; (with_reducible refine (slices_Equal_int_int.calls kj59 _ _ t232 _ _ t236 true _ ?side1 ?side2 ?side3 ?side4 A123.out).mono ?_); (case side1 => repeat (first | exact (Kd.R_reads' HO_24.out).2.2 | (with_reducible refine Kd.C_alloc ?_ _) | (with_reducible refine Kd.C_drewN ?_ _) | (with_reducible refine Kd.C_drew ?_))); (case side2 => exact (Kd.R_reads' HO_24.out).2.1); (case side3 => repeat (first | exact (Kd.R_reads' HO_26.out).2.2 | (with_reducible refine Kd.C_alloc ?_ _) | (with_reducible refine Kd.C_drewN ?_ _) | (with_reducible refine Kd.C_drew ?_))); (case side4 => exact (Kd.R_reads' HO_26.out).2.1); rintro e w' ⟨rfl, ⟨nd, rfl⟩⟩))
                                          go_ret
                                          exact ⟨by first | rfl | (simp [errW_none, errW_some] <;> rfl) | (simp [*, errW_none, errW_some] <;> rfl), by repeat (first | (with_reducible first | exact HB.out | apply below_alloc | apply pw_below_drewN | apply below_drew1) | exact HB.out)⟩
                                    · as_aux_lemma =>
                                        replace c124 := Bool.eq_false_iff.mpr c124
                                        subst c124
                                        have H1 : (some false) = some r := by rw [if_neg (show ¬ (false = true) by decide)] at H; exact H
                                        clear H
                                        have H := H1
                                        clear H1
                                        obtain rfl := Option.some.inj H
                                        go_wp2_with (first | ((with_reducible refine gate_callee (f := 81) rfl ?_); refine goesL_ (some 161) rfl rfl Try.func81 (by kernel_rfl) rfl #[.slice A5 l5.length c5, .func (.func 82) #[] #[]] rfl (by (try simp only [List.map_toArray, List.map_cons, List.map_nil]); first | done | rfl | (simp only [List.length_drop, List.length_take]; rfl)) ?_; (with_reducible refine (slices_ContainsFunc_bakelaw2_FluxCells_1.calls kj59 _ _ l5 true _ ?side1 ?side2 A117.out).mono ?_); (case side1 => repeat (first | exact (Kd.C_below HR5.out HB.out) | (with_reducible refine Kd.C_alloc ?_ _) | (with_reducible refine Kd.C_drewN ?_ _) | (with_reducible refine Kd.C_drew ?_))); (case side2 => exact HC5.out); rintro e w' ⟨rfl, ⟨nd, rfl⟩⟩; refine ⟨_, rfl, ?_⟩; obtain ⟨Ao136, co136, eo136⟩ := Kd.R_slice HO_13.out; subst eo136; obtain ⟨Ao137, co137, eo137⟩ := Kd.R_slice HO_15.out; subst eo137) | (go_at_call 40; (with_reducible refine (slices_Equal_api_Track_int.calls kj59 _ _ t199 _ _ x15_22 true _ ?side1 ?side2 ?side3 ?side4 A120.out).mono ?_); (case side1 => repeat (first | exact (Kd.R_reads' HO_13.out).2.2 | (with_reducible refine Kd.C_alloc ?_ _) | (with_reducible refine Kd.C_drewN ?_ _) | (with_reducible refine Kd.C_drew ?_))); (case side2 => exact (Kd.R_reads' HO_13.out).2.1); (case side3 => repeat (first | exact (Kd.R_reads' HO_15.out).2.2 | (with_reducible refine Kd.C_alloc ?_ _) | (with_reducible refine Kd.C_drewN ?_ _) | (with_reducible refine Kd.C_drew ?_))); (case side4 => exact (Kd.R_reads' HO_15.out).2.1); rintro e w' ⟨rfl, ⟨nd, rfl⟩⟩; obtain ⟨Ao138, co138, eo138⟩ := Kd.R_slice HO_24.out; subst eo138; obtain ⟨Ao139, co139, eo139⟩ := Kd.R_slice HO_26.out; subst eo139) | (go_at_call 35; (with_reducible refine (slices_Equal_int_int.calls kj59 _ _ t232 _ _ t236 false _ ?side1 ?side2 ?side3 ?side4 A123.out).mono ?_); (case side1 => repeat (first | exact (Kd.R_reads' HO_24.out).2.2 | (with_reducible refine Kd.C_alloc ?_ _) | (with_reducible refine Kd.C_drewN ?_ _) | (with_reducible refine Kd.C_drew ?_))); (case side2 => exact (Kd.R_reads' HO_24.out).2.1); (case side3 => repeat (first | exact (Kd.R_reads' HO_26.out).2.2 | (with_reducible refine Kd.C_alloc ?_ _) | (with_reducible refine Kd.C_drewN ?_ _) | (with_reducible refine Kd.C_drew ?_))); (case side4 => exact (Kd.R_reads' HO_26.out).2.1); rintro e w' ⟨rfl, ⟨nd, rfl⟩⟩))
                                        go_ret
                                        exact ⟨by first | rfl | (simp [errW_none, errW_some] <;> rfl) | (simp [*, errW_none, errW_some] <;> rfl), by repeat (first | (with_reducible first | exact HB.out | apply below_alloc | apply pw_below_drewN | apply below_drew1) | exact HB.out)⟩
                                  · as_aux_lemma =>
                                      rw [if_neg c122] at H
                                      have c122b0 : (t233 == t237) = false := beq_eq_false_iff_ne.mpr c122
                                      have c122b1 : (t233 != t237) = true := bne_iff_ne.mpr c122
                                      obtain rfl := Option.some.inj H
                                      go_wp2_with (first | ((with_reducible refine gate_callee (f := 81) rfl ?_); refine goesL_ (some 161) rfl rfl Try.func81 (by kernel_rfl) rfl #[.slice A5 l5.length c5, .func (.func 82) #[] #[]] rfl (by (try simp only [List.map_toArray, List.map_cons, List.map_nil]); first | done | rfl | (simp only [List.length_drop, List.length_take]; rfl)) ?_; (with_reducible refine (slices_ContainsFunc_bakelaw2_FluxCells_1.calls kj59 _ _ l5 true _ ?side1 ?side2 A117.out).mono ?_); (case side1 => repeat (first | exact (Kd.C_below HR5.out HB.out) | (with_reducible refine Kd.C_alloc ?_ _) | (with_reducible refine Kd.C_drewN ?_ _) | (with_reducible refine Kd.C_drew ?_))); (case side2 => exact HC5.out); rintro e w' ⟨rfl, ⟨nd, rfl⟩⟩; refine ⟨_, rfl, ?_⟩; obtain ⟨Ao140, co140, eo140⟩ := Kd.R_slice HO_13.out; subst eo140; obtain ⟨Ao141, co141, eo141⟩ := Kd.R_slice HO_15.out; subst eo141) | (go_at_call 40; (with_reducible refine (slices_Equal_api_Track_int.calls kj59 _ _ t199 _ _ x15_22 true _ ?side1 ?side2 ?side3 ?side4 A120.out).mono ?_); (case side1 => repeat (first | exact (Kd.R_reads' HO_13.out).2.2 | (with_reducible refine Kd.C_alloc ?_ _) | (with_reducible refine Kd.C_drewN ?_ _) | (with_reducible refine Kd.C_drew ?_))); (case side2 => exact (Kd.R_reads' HO_13.out).2.1); (case side3 => repeat (first | exact (Kd.R_reads' HO_15.out).2.2 | (with_reducible refine Kd.C_alloc ?_ _) | (with_reducible refine Kd.C_drewN ?_ _) | (with_reducible refine Kd.C_drew ?_))); (case side4 => exact (Kd.R_reads' HO_15.out).2.1); rintro e w' ⟨rfl, ⟨nd, rfl⟩⟩))
                                      go_ret
                                      exact ⟨by first | rfl | (simp [errW_none, errW_some] <;> rfl) | (simp [*, errW_none, errW_some] <;> rfl), by repeat (first | (with_reducible first | exact HB.out | apply below_alloc | apply pw_below_drewN | apply below_drew1) | exact HB.out)⟩
                                · as_aux_lemma =>
                                    replace c121 := Bool.eq_false_iff.mpr c121
                                    subst c121
                                    have H1 : (some false) = some r := by rw [if_neg (show ¬ (false = true) by decide)] at H; exact H
                                    clear H
                                    have H := H1
                                    clear H1
                                    obtain rfl := Option.some.inj H
                                    go_wp2_with (first | ((with_reducible refine gate_callee (f := 81) rfl ?_); refine goesL_ (some 161) rfl rfl Try.func81 (by kernel_rfl) rfl #[.slice A5 l5.length c5, .func (.func 82) #[] #[]] rfl (by (try simp only [List.map_toArray, List.map_cons, List.map_nil]); first | done | rfl | (simp only [List.length_drop, List.length_take]; rfl)) ?_; (with_reducible refine (slices_ContainsFunc_bakelaw2_FluxCells_1.calls kj59 _ _ l5 true _ ?side1 ?side2 A117.out).mono ?_); (case side1 => repeat (first | exact (Kd.C_below HR5.out HB.out) | (with_reducible refine Kd.C_alloc ?_ _) | (with_reducible refine Kd.C_drewN ?_ _) | (with_reducible refine Kd.C_drew ?_))); (case side2 => exact HC5.out); rintro e w' ⟨rfl, ⟨nd, rfl⟩⟩; refine ⟨_, rfl, ?_⟩; obtain ⟨Ao142, co142, eo142⟩ := Kd.R_slice HO_13.out; subst eo142; obtain ⟨Ao143, co143, eo143⟩ := Kd.R_slice HO_15.out; subst eo143) | (go_at_call 40; (with_reducible refine (slices_Equal_api_Track_int.calls kj59 _ _ t199 _ _ x15_22 false _ ?side1 ?side2 ?side3 ?side4 A120.out).mono ?_); (case side1 => repeat (first | exact (Kd.R_reads' HO_13.out).2.2 | (with_reducible refine Kd.C_alloc ?_ _) | (with_reducible refine Kd.C_drewN ?_ _) | (with_reducible refine Kd.C_drew ?_))); (case side2 => exact (Kd.R_reads' HO_13.out).2.1); (case side3 => repeat (first | exact (Kd.R_reads' HO_15.out).2.2 | (with_reducible refine Kd.C_alloc ?_ _) | (with_reducible refine Kd.C_drewN ?_ _) | (with_reducible refine Kd.C_drew ?_))); (case side4 => exact (Kd.R_reads' HO_15.out).2.1); rintro e w' ⟨rfl, ⟨nd, rfl⟩⟩))
                                    go_ret
                                    exact ⟨by first | rfl | (simp [errW_none, errW_some] <;> rfl) | (simp [*, errW_none, errW_some] <;> rfl), by repeat (first | (with_reducible first | exact HB.out | apply below_alloc | apply pw_below_drewN | apply below_drew1) | exact HB.out)⟩
                              · as_aux_lemma =>
                                  rw [if_neg c119] at H
                                  have c119b0 : (t200 == x16_22) = false := beq_eq_false_iff_ne.mpr c119
                                  have c119b1 : (t200 != x16_22) = true := bne_iff_ne.mpr c119
                                  obtain rfl := Option.some.inj H
                                  go_wp2_with (first | ((with_reducible refine gate_callee (f := 81) rfl ?_); refine goesL_ (some 161) rfl rfl Try.func81 (by kernel_rfl) rfl #[.slice A5 l5.length c5, .func (.func 82) #[] #[]] rfl (by (try simp only [List.map_toArray, List.map_cons, List.map_nil]); first | done | rfl | (simp only [List.length_drop, List.length_take]; rfl)) ?_; (with_reducible refine (slices_ContainsFunc_bakelaw2_FluxCells_1.calls kj59 _ _ l5 true _ ?side1 ?side2 A117.out).mono ?_); (case side1 => repeat (first | exact (Kd.C_below HR5.out HB.out) | (with_reducible refine Kd.C_alloc ?_ _) | (with_reducible refine Kd.C_drewN ?_ _) | (with_reducible refine Kd.C_drew ?_))); (case side2 => exact HC5.out); rintro e w' ⟨rfl, ⟨nd, rfl⟩⟩; refine ⟨_, rfl, ?_⟩))
                                  go_ret
                                  exact ⟨by first | rfl | (simp [errW_none, errW_some] <;> rfl) | (simp [*, errW_none, errW_some] <;> rfl), by repeat (first | (with_reducible first | exact HB.out | apply below_alloc | apply pw_below_drewN | apply below_drew1) | exact HB.out)⟩
                            · replace c118 := Bool.eq_false_iff.mpr c118
                              subst c118
                              have H1 : (bakelaw2_FluxCells.l3 kj59 a3 t199 t200 x15_22 x16_22 t232 t233 t236 t237 t240 t241 ([] : List Int) 0 l5 (l5.length : Int) 0) = some r := by rw [if_neg (show ¬ (false = true) by decide)] at H; exact H
                              clear H
                              have H := H1
                              clear H1
                              have H' := Aside0.mk H
                              clear H
                              go_wp2_with (first | ((with_reducible refine gate_callee (f := 81) rfl ?_); refine goesL_ (some 161) rfl rfl Try.func81 (by kernel_rfl) rfl #[.slice A5 l5.length c5, .func (.func 82) #[] #[]] rfl (by (try simp only [List.map_toArray, List.map_cons, List.map_nil]); first | done | rfl | (simp only [List.length_drop, List.length_take]; rfl)) ?_; (with_reducible refine (slices_ContainsFunc_bakelaw2_FluxCells_1.calls kj59 _ _ l5 false _ ?side1 ?side2 A117.out).mono ?_); (case side1 => repeat (first | exact (Kd.C_below HR5.out HB.out) | (with_reducible refine Kd.C_alloc ?_ _) | (with_reducible refine Kd.C_drewN ?_ _) | (with_reducible refine Kd.C_drew ?_))); (case side2 => exact HC5.out); rintro e w' ⟨rfl, ⟨nd, rfl⟩⟩; refine ⟨_, rfl, ?_⟩))
                              go_loopg [30, 137] kj59 (fun kq v30 v137 w' => ∃ (x30_6 : List Int) (x137_6 : Int), v137 = .int .i64 x137_6 ∧ Aside0 (bakelaw2_FluxCells.l3 kq a3 t199 t200 x15_22 x16_22 t232 t233 t236 t237 t240 t241 x30_6 0 l5 (l5.length : Int) x137_6 = some r) ∧ Aside0 (kq ≤ kj59) ∧ Aside0 (Kd.R (Kd.int .i64) 3 w' w.heap.size (fun k_ => some k_ ≠ (u15 : Value).ownBlock ∧ some k_ ≠ (v234 : Value).ownBlock ∧ some k_ ≠ (v238 : Value).ownBlock ∧ some k_ ≠ (v242 : Value).ownBlock ∧ some k_ ≠ (v30 : Value).ownBlock) v201 t199) ∧ Aside0 (Kd.R (Kd.int .i64) 3 w' w.heap.size (fun k_ => some k_ ≠ (v201 : Value).ownBlock ∧ some k_ ≠ (v234 : Value).ownBlock ∧ some k_ ≠ (v238 : Value).ownBlock ∧ some k_ ≠ (v242 : Value).ownBlock ∧ some k_ ≠ (v30 : Value).ownBlock) u15 x15_22) ∧ Aside0 (Kd.R (Kd.int .i64) 3 w' w.heap.size (fun k_ => some k_ ≠ (v201 : Value).ownBlock ∧ some k_ ≠ (u15 : Value).ownBlock ∧ some k_ ≠ (v238 : Value).ownBlock ∧ some k_ ≠ (v242 : Value).ownBlock ∧ some k_ ≠ (v30 : Value).ownBlock) v234 t232) ∧ Aside0 (Kd.R (Kd.int .i64) 3 w' w.heap.size (fun k_ => some k_ ≠ (v201 : Value).ownBlock ∧ some k_ ≠ (u15 : Value).ownBlock ∧ some k_ ≠ (v234 : Value).ownBlock ∧ some k_ ≠ (v242 : Value).ownBlock ∧ some k_ ≠ (v30 : Value).ownBlock) v238 t236) ∧ Aside0 (Kd.R (Kd.int .i64) 3 w' w.heap.size (fun k_ => some k_ ≠ (v201 : Value).ownBlock ∧ some k_ ≠ (u15 : Value).ownBlock ∧ some k_ ≠ (v234 : Value).ownBlock ∧ some k_ ≠ (v238 : Value).ownBlock ∧ some k_ ≠ (v30 : Value).ownBlock) v242 t240) ∧ Aside0 (Kd.R (Kd.int .i64) 3 w' w.heap.size (fun k_ => some k_ ≠ (v201 : Value).ownBlock ∧ some k_ ≠ (u15 : Value).ownBlock ∧ some k_ ≠ (v234 : Value).ownBlock ∧ some k_ ≠ (v238 : Value).ownBlock ∧ some k_ ≠ (v242 : Value).ownBlock) v30 x30_6) ∧ Aside0 (Below w.heap.size w w'))
                              case atStart => exact ⟨(([] : List Int)), (0), (by first | rfl | (simp; done) | (simp [*]; done)), H', ⟨Nat.le_refl _⟩, ⟨by (with_reducible repeat (first | apply Kd.R_alloc | apply Kd.R_drewN | apply Kd.R_drew)); exact HO_13.out⟩, ⟨by (with_reducible repeat (first | apply Kd.R_alloc | apply Kd.R_drewN | apply Kd.R_drew)); exact HO_15.out⟩, ⟨by (with_reducible repeat (first | apply Kd.R_alloc | apply Kd.R_drewN | apply Kd.R_drew)); exact HO_24.out⟩, ⟨by (with_reducible repeat (first | apply Kd.R_alloc | apply Kd.R_drewN | apply Kd.R_drew)); exact HO_26.out⟩, ⟨by (with_reducible repeat (first | apply Kd.R_alloc | apply Kd.R_drewN | apply Kd.R_drew)); exact HO_28.out⟩, ⟨by (with_reducible repeat (first | apply Kd.R_alloc | apply Kd.R_drewN | apply Kd.R_drew)); exact HO_30.out⟩, ⟨by repeat (first | (with_reducible first | exact HB.out | apply below_alloc | apply pw_below_drewN | apply below_drew1) | exact HB.out)⟩⟩
                              case round =>
                                clear H'
                                try clear c1
                                try clear c2
                                try clear p2
                                try clear q2
                                try clear hx2
                                try clear c3
                                try clear c4
                                try clear c5
                                try clear c6
                                try clear p6
                                try clear c7
                                try clear c8
                                try clear c9
                                try clear c11
                                try clear c12
                                try clear c13
                                try clear c14
                                try clear c14b0
                                try clear c14b1
                                try clear c17
                                try clear c17b0
                                try clear c17b1
                                try clear c18
                                try clear c18b0
                                try clear p20
                                try clear q20
                                try clear hx20
                                try clear p21
                                try clear q21
                                try clear hx21
                                try clear c22
                                try clear p22
                                try clear q22
                                try clear hx22
                                try clear c24
                                try clear c24b0
                                try clear c24b1
                                try clear c28
                                try clear c28b0
                                try clear c29
                                try clear c29b0
                                try clear c30
                                try clear c30b0
                                try clear c31
                                try clear c31b0
                                try clear c32
                                try clear c36
                                try clear c37
                                try clear c37b0
                                try clear c38
                                try clear c38b0
                                try clear c39
                                try clear c39b0
                                try clear c40
                                try clear c45
                                try clear c45b0
                                try clear c46
                                try clear c46b0
                                try clear c47
                                try clear c47b0
                                try clear c49
                                try clear c49b0
                                try clear c50
                                try clear c64
                                try clear c64b0
                                try clear p64
                                try clear c65
                                try clear c66
                                try clear c66b0
                                try clear c66b1
                                try clear c68
                                try clear c69
                                try clear c69b0
                                try clear c69b1
                                try clear c71
                                try clear c72
                                try clear c72b0
                                try clear c72b1
                                try clear c78
                                try clear c79
                                try clear c80
                                try clear c91
                                try clear c91b0
                                try clear c91b1
                                try clear c92
                                try clear c92b0
                                try clear c92b1
                                try clear c94
                                try clear c95
                                try clear c95b0
                                try clear c95b1
                                try clear c97
                                try clear c98
                                try clear c98b0
                                try clear c98b1
                                try clear c118
                                try clear c119
                                try clear c119b0
                                try clear c119b1
                                try clear c121
                                try clear c122
                                try clear c122b0
                                try clear c122b1
                                try clear c124
                                try clear c125
                                try clear c125b0
                                try clear c125b1
                                try clear c142
                                try clear hx209_0
                                try clear hx216_0
                                try clear hx223_0
                                try clear p2
                                try clear p20
                                try clear p209
                                try clear p21
                                try clear p216
                                try clear p22
                                try clear p223
                                try clear p6
                                try clear p64
                                try clear q2
                                try clear q20
                                try clear q209
                                try clear q21
                                try clear q216
                                try clear q22
                                try clear q223
                                obtain ⟨x30_6, x137_6, rfl, HA, HK6, HO_13, HO_15, HO_24, HO_26, HO_28, HO_30, HB⟩ := hrel
                                cases gk with
                                | zero => exact absurd HA.out (by simp [bakelaw2_FluxCells.l3])
                                | succ k6 =>
                                  have H := HA.out
                                  clear HA
                                  simp only [bakelaw2_FluxCells.l3] at H
                                  by_cases c144 : x137_6 < (l5.length : Int)
                                  · rw [if_pos c144] at H
                                    have c144b0 : decide (x137_6 < (l5.length : Int)) = true := decide_eq_true c144
                                    clear c144
                                    by_cases c145 : 0 ≤ x137_6
                                    · rw [if_pos c145] at H
                                      have c145b0 : decide (0 ≤ x137_6) = true := decide_eq_true c145
                                      clear c145
                                      by_cases c146 : x137_6 < (l5.length : Int)
                                      · rw [if_pos c146] at H
                                        have c146b0 : decide (x137_6 < (l5.length : Int)) = true := decide_eq_true c146
                                        clear c146
                                        by_cases c147 : x30_6.length < 17592186044416
                                        · as_aux_lemma =>
                                            rw [if_pos c147] at H
                                            have LMc147 := Aside0.mk c147
                                            clear c147
                                            obtain ⟨y255, hy255⟩ : ∃ y_ : List Int, y_ = (x30_6 ++ [wrap64 (a3 * (rd l5 x137_6))]) := ⟨_, rfl⟩
                                            replace H : (bakelaw2_FluxCells.l3 k6 a3 t199 t200 x15_22 x16_22 t232 t233 t236 t237 t240 t241 y255 0 l5 (l5.length : Int) (wrap64 (x137_6 + 1))) = some r := by first | (rw [hy255]; with_reducible exact H) | (have H2_ := (Option.bind_some _ _).symm.trans H; rw [hy255]; with_reducible exact H2_) | (have H2_ := (Option.bind_some _ _).symm.trans H; with_reducible exact H2_) | with_reducible exact H | (rw [hy255]; exact H) | exact H
                                            have Ny255 := Aside0.mk hy255
                                            clear hy255
                                            have H' := Aside0.mk H
                                            clear H
                                            have p254 : 0 ≤ (x137_6 : Int) := of_decide_eq_true (by first | (with_reducible assumption) | assumption)
                                            have q254 : x137_6 < (l5.length : Int) := of_decide_eq_true (by first | (with_reducible assumption) | assumption)
                                            obtain ⟨ad254, e254, hx254_0⟩ := Kd.at_int HR5.out x137_6 p254 q254
                                            cases e254
                                            replace hx254_0 := (HB.out.cell (World.block_lt_of_cell? w _ hx254_0)).trans hx254_0
                                            replace p254 := eq_true p254
                                            replace q254 := eq_true q254
                                            go_wp2_with (first | ((with_reducible refine gate_builtin (b := .append) (xs := #[.tmp 141, .tmp 145]) rfl ?_); at_builtin; refine Kd.R_append (Kd.int .i64) (w0 := w) w.heap.size rfl (.tmp 141) (.tmp 145) 44 3 (.int .i64 0) 8 rfl Try.underlying44 info3 rfl (by decide) (by omega) u30 x30_6 (wrap64 (a3 * (rd l5 x137_6))) [.int .i64 (wrap64 (a3 * (rd l5 x137_6)))] (fun k_ => some k_ ≠ (v201 : Value).ownBlock ∧ some k_ ≠ (u15 : Value).ownBlock ∧ some k_ ≠ (v234 : Value).ownBlock ∧ some k_ ≠ (v238 : Value).ownBlock ∧ some k_ ≠ (v242 : Value).ownBlock) (fun _ => False) rfl rfl ?aP (fun _ hk => hk.elim) ?aF ?aO ?aB ?aS ?aL ?_; (case aP => exact rfl); (case aB => exact (by repeat (first | (with_reducible first | exact HB.out | apply below_alloc | apply pw_below_drewN | apply below_drew1) | exact HB.out))); (case aF => exact (fun k_ hk => ⟨Kd.fresh' (Kd.R_lt (by (with_reducible repeat (first | apply Kd.R_alloc | apply Kd.R_drewN | apply Kd.R_drew)); exact HO_13.out)) k_ hk, Kd.fresh' (Kd.R_lt (by (with_reducible repeat (first | apply Kd.R_alloc | apply Kd.R_drewN | apply Kd.R_drew)); exact HO_15.out)) k_ hk, Kd.fresh' (Kd.R_lt (by (with_reducible repeat (first | apply Kd.R_alloc | apply Kd.R_drewN | apply Kd.R_drew)); exact HO_24.out)) k_ hk, Kd.fresh' (Kd.R_lt (by (with_reducible repeat (first | apply Kd.R_alloc | apply Kd.R_drewN | apply Kd.R_drew)); exact HO_26.out)) k_ hk, Kd.fresh' (Kd.R_lt (by (with_reducible repeat (first | apply Kd.R_alloc | apply Kd.R_drewN | apply Kd.R_drew)); exact HO_28.out)) k_ hk⟩)); (case aO => exact (by (with_reducible repeat (first | apply Kd.R_alloc | apply Kd.R_drewN | apply Kd.R_drew)); exact HO_30.out)); (case aS => exact (below_size (by repeat (first | (with_reducible first | exact HB.out | apply below_alloc | apply pw_below_drewN | apply below_drew1) | exact HB.out)))); (case aL => have := LMc147.out; omega); intro v256 w148 ho hb hg hat; rw [← Ny255.out] at ho; have n0_ := Aside0.mk (Kd.R_after (ok := (fun k_ => some k_ ≠ (u15 : Value).ownBlock ∧ some k_ ≠ (v234 : Value).ownBlock ∧ some k_ ≠ (v238 : Value).ownBlock ∧ some k_ ≠ (v242 : Value).ownBlock)) (by (with_reducible repeat (first | apply Kd.R_alloc | apply Kd.R_drewN | apply Kd.R_drew)); exact Kd.R_mono HO_13.out (fun _ hk => ⟨⟨hk.1, ⟨hk.2.1, ⟨hk.2.2.1, hk.2.2.2.1⟩⟩⟩, hk.2.2.2.2⟩)) hg hat); have n1_ := Aside0.mk (Kd.R_after (ok := (fun k_ => some k_ ≠ (v201 : Value).ownBlock ∧ some k_ ≠ (v234 : Value).ownBlock ∧ some k_ ≠ (v238 : Value).ownBlock ∧ some k_ ≠ (v242 : Value).ownBlock)) (by (with_reducible repeat (first | apply Kd.R_alloc | apply Kd.R_drewN | apply Kd.R_drew)); exact Kd.R_mono HO_15.out (fun _ hk => ⟨⟨hk.1, ⟨hk.2.1, ⟨hk.2.2.1, hk.2.2.2.1⟩⟩⟩, hk.2.2.2.2⟩)) hg hat); have n2_ := Aside0.mk (Kd.R_after (ok := (fun k_ => some k_ ≠ (v201 : Value).ownBlock ∧ some k_ ≠ (u15 : Value).ownBlock ∧ some k_ ≠ (v238 : Value).ownBlock ∧ some k_ ≠ (v242 : Value).ownBlock)) (by (with_reducible repeat (first | apply Kd.R_alloc | apply Kd.R_drewN | apply Kd.R_drew)); exact Kd.R_mono HO_24.out (fun _ hk => ⟨⟨hk.1, ⟨hk.2.1, ⟨hk.2.2.1, hk.2.2.2.1⟩⟩⟩, hk.2.2.2.2⟩)) hg hat); have n3_ := Aside0.mk (Kd.R_after (ok := (fun k_ => some k_ ≠ (v201 : Value).ownBlock ∧ some k_ ≠ (u15 : Value).ownBlock ∧ some k_ ≠ (v234 : Value).ownBlock ∧ some k_ ≠ (v242 : Value).ownBlock)) (by (with_reducible repeat (first | apply Kd.R_alloc | apply Kd.R_drewN | apply Kd.R_drew)); exact Kd.R_mono HO_26.out (fun _ hk => ⟨⟨hk.1, ⟨hk.2.1, ⟨hk.2.2.1, hk.2.2.2.1⟩⟩⟩, hk.2.2.2.2⟩)) hg hat); have n4_ := Aside0.mk (Kd.R_after (ok := (fun k_ => some k_ ≠ (v201 : Value).ownBlock ∧ some k_ ≠ (u15 : Value).ownBlock ∧ some k_ ≠ (v234 : Value).ownBlock ∧ some k_ ≠ (v238 : Value).ownBlock)) (by (with_reducible repeat (first | apply Kd.R_alloc | apply Kd.R_drewN | apply Kd.R_drew)); exact Kd.R_mono HO_28.out (fun _ hk => ⟨⟨hk.1, ⟨hk.2.1, ⟨hk.2.2.1, hk.2.2.2.1⟩⟩⟩, hk.2.2.2.2⟩)) hg hat); have n5_ := Aside0.mk (hb); have n6_ := Aside0.mk (ho); clear HO_13; clear HO_15; clear HO_24; clear HO_26; clear HO_28; clear HB; clear HO_30; have HO_13 := n0_; have HO_15 := n1_; have HO_24 := n2_; have HO_26 := n3_; have HO_28 := n4_; have HB := n5_; have HO257 := n6_; clear n0_ n1_ n2_ n3_ n4_ n5_ n6_; clear ho hb hg hat))
                                            go_roundg k6
                                            case measure => have := HJ10.out; have := HJ15.out; have := HJ20.out; have := HJ22.out; have := HJ59.out; have := HK6.out; omega
                                            case rel => exact ⟨(y255), (wrap64 (x137_6 + 1)), (by first | rfl | (simp; done) | (simp [*]; done)), H', ⟨by have := HJ10.out; have := HJ15.out; have := HJ20.out; have := HJ22.out; have := HJ59.out; have := HK6.out; omega⟩, ⟨by (with_reducible repeat (first | apply Kd.R_alloc | apply Kd.R_drewN | apply Kd.R_drew)); exact Kd.R_mono HO_13.out (fun _ hk => ⟨hk.1.1, ⟨hk.1.2.1, ⟨hk.1.2.2.1, ⟨hk.1.2.2.2, hk.2⟩⟩⟩⟩)⟩, ⟨by (with_reducible repeat (first | apply Kd.R_alloc | apply Kd.R_drewN | apply Kd.R_drew)); exact Kd.R_mono HO_15.out (fun _ hk => ⟨hk.1.1, ⟨hk.1.2.1, ⟨hk.1.2.2.1, ⟨hk.1.2.2.2, hk.2⟩⟩⟩⟩)⟩, ⟨by (with_reducible repeat (first | apply Kd.R_alloc | apply Kd.R_drewN | apply Kd.R_drew)); exact Kd.R_mono HO_24.out (fun _ hk => ⟨hk.1.1, ⟨hk.1.2.1, ⟨hk.1.2.2.1, ⟨hk.1.2.2.2, hk.2⟩⟩⟩⟩)⟩, ⟨by (with_reducible repeat (first | apply Kd.R_alloc | apply Kd.R_drewN | apply Kd.R_drew)); exact Kd.R_mono HO_26.out (fun _ hk => ⟨hk.1.1, ⟨hk.1.2.1, ⟨hk.1.2.2.1, ⟨hk.1.2.2.2, hk.2⟩⟩⟩⟩)⟩, ⟨by (with_reducible repeat (first | apply Kd.R_alloc | apply Kd.R_drewN | apply Kd.R_drew)); exact Kd.R_mono HO_28.out (fun _ hk => ⟨hk.1.1, ⟨hk.1.2.1, ⟨hk.1.2.2.1, ⟨hk.1.2.2.2, hk.2⟩⟩⟩⟩)⟩, ⟨by (with_reducible repeat (first | apply Kd.R_alloc | apply Kd.R_drewN | apply Kd.R_drew)); exact HO257.out⟩, ⟨by repeat (first | (with_reducible first | exact HB.out | apply below_alloc | apply pw_below_drewN | apply below_drew1) | exact HB.out)⟩⟩
                                        · rw [if_neg c147] at H
                                          exact absurd H (by simp)
                                      · rw [if_neg c146] at H
                                        exact absurd H (by simp)
                                    · rw [if_neg c145] at H
                                      exact absurd H (by simp)
                                  · rw [if_neg c144] at H
                                    have c144b0 : decide (x137_6 < (l5.length : Int)) = false := decide_eq_false c144
                                    clear c144
                                    by_cases c149 : t200 = x16_22
                                    · rw [if_pos c149] at H
                                      have c149b0 : (t200 == x16_22) = true := beq_iff_eq.mpr c149
                                      have c149b1 : (t200 != x16_22) = false := bne_eq_false_iff_eq.mpr c149
                                      clear c149
                                      replace H := Option.bind_eq_some_iff.mp H
                                      obtain ⟨t258, A1500, H⟩ := H
                                      replace H : (if t258 = true then (if t233 = t237 then ((slices_Equal_int_int.f k6 t232 t236).bind fun t259 => (if t259 = true then (if t241 = 0 then ((slices_Equal_api_Track_int.f k6 t240 x30_6).bind fun t260 => (some t260)) else (some false)) else (some false))) else (some false)) else (some false)) = some r := H
                                      have A150 := Aside0.mk A1500
                                      clear A1500
                                      by_cases c151 : t258 = true
                                      · subst c151
                                        have H1 : (if t233 = t237 then ((slices_Equal_int_int.f k6 t232 t236).bind fun t259 => (if t259 = true then (if t241 = 0 then ((slices_Equal_api_Track_int.f k6 t240 x30_6).bind fun t260 => (some t260)) else (some false)) else (some false))) else (some false)) = some r := by rw [if_pos rfl] at H; exact H
                                        clear H
                                        have H := H1
                                        clear H1
                                        by_cases c152 : t233 = t237
                                        · rw [if_pos c152] at H
                                          have c152b0 : (t233 == t237) = true := beq_iff_eq.mpr c152
                                          have c152b1 : (t233 != t237) = false := bne_eq_false_iff_eq.mpr c152
                                          clear c152
                                          replace H := Option.bind_eq_some_iff.mp H
                                          obtain ⟨t259, A1530, H⟩ := H
                                          replace H : (if t259 = true then (if t241 = 0 then ((slices_Equal_api_Track_int.f k6 t240 x30_6).bind fun t260 => (some t260)) else (some false)) else (some false)) = some r := H
                                          have A153 := Aside0.mk A1530
                                          clear A1530
                                          by_cases c154 : t259 = true
                                          · subst c154
                                            have H1 : (if t241 = 0 then ((slices_Equal_api_Track_int.f k6 t240 x30_6).bind fun t260 => (some t260)) else (some false)) = some r := by rw [if_pos rfl] at H; exact H
                                            clear H
                                            have H := H1
                                            clear H1
                                            by_cases c155 : t241 = 0
                                            · as_aux_lemma =>
                                                rw [if_pos c155] at H
                                                have c155b0 : (t241 == 0) = true := beq_iff_eq.mpr c155
                                                have c155b1 : (t241 != 0) = false := bne_eq_false_iff_eq.mpr c155
                                                clear c155
                                                replace H := Option.bind_eq_some_iff.mp H
                                                obtain ⟨t260, A1560, H⟩ := H
                                                replace H : (some t260) = some r := H
                                                have A156 := Aside0.mk A1560
                                                clear A1560
                                                obtain rfl := Option.some.inj H
                                                obtain ⟨Ao157, co157, eo157⟩ := Kd.R_slice HO_13.out
                                                subst eo157
                                                obtain ⟨Ao158, co158, eo158⟩ := Kd.R_slice HO_15.out
                                                subst eo158
                                                go_wp2_with (first | (go_at_call 40; (with_reducible refine (slices_Equal_api_Track_int.calls k6 _ _ t199 _ _ x15_22 true _ ?side1 ?side2 ?side3 ?side4 A150.out).mono ?_); (case side1 => repeat (first | exact (Kd.R_reads' HO_13.out).2.2 | (with_reducible refine Kd.C_alloc ?_ _) | (with_reducible refine Kd.C_drewN ?_ _) | (with_reducible refine Kd.C_drew ?_))); (case side2 => exact (Kd.R_reads' HO_13.out).2.1); (case side3 => repeat (first | exact (Kd.R_reads' HO_15.out).2.2 | (with_reducible refine Kd.C_alloc ?_ _) | (with_reducible refine Kd.C_drewN ?_ _) | (with_reducible refine Kd.C_drew ?_))); (case side4 => exact (Kd.R_reads' HO_15.out).2.1); rintro e w' ⟨rfl, ⟨nd, rfl⟩⟩; obtain ⟨Ao159, co159, eo159⟩ := Kd.R_slice HO_24.out; subst eo159; obtain ⟨Ao160, co160, eo160⟩ := Kd.R_slice HO_26.out; subst eo160) | (go_at_call 35; (with_reducible refine (slices_Equal_int_int.calls k6 _ _ t232 _ _ t236 true _ ?side1 ?side2 ?side3 ?side4 A153.out).mono ?_); (case side1 => repeat (first | exact (Kd.R_reads' HO_24.out).2.2 | (with_reducible refine Kd.C_alloc ?_ _) | (with_reducible refine Kd.C_drewN ?_ _) | (with_reducible refine Kd.C_drew ?_))); (case side2 => exact (Kd.R_reads' HO_24.out).2.1); (case side3 => repeat (first | exact (Kd.R_reads' HO_26.out).2.2 | (with_reducible refine Kd.C_alloc ?_ _) | (with_reducible refine Kd.C_drewN ?_ _) | (with_reducible refine Kd.C_drew ?_))); (case side4 => exact (Kd.R_reads' HO_26.out).2.1); rintro e w' ⟨rfl, ⟨nd, rfl⟩⟩; obtain ⟨Ao161, co161, eo161⟩ := Kd.R_slice HO_28.out; subst eo161; obtain ⟨Ao162, co162, eo162⟩ := Kd.R_slice HO_30.out; subst eo162) | (go_at_call 40; (with_reducible refine (slices_Equal_api_Track_int.calls k6 _ _ t240 _ _ x30_6 t260 _ ?side1 ?side2 ?side3 ?side4 A156.out).mono ?_); (case side1 => repeat (first | exact (Kd.R_reads' HO_28.out).2.2 | (with_reducible refine Kd.C_alloc ?_ _) | (with_reducible refine Kd.C_drewN ?_ _) | (with_reducible refine Kd.C_drew ?_))); (case side2 => exact (Kd.R_reads' HO_28.out).2.1); (case side3 => repeat (first | exact (Kd.R_reads' HO_30.out).2.2 | (with_reducible refine Kd.C_alloc ?_ _) | (with_reducible refine Kd.C_drewN ?_ _) | (with_reducible refine Kd.C_drew ?_))); (case side4 => exact (Kd.R_reads' HO_30.out).2.1); rintro e w' ⟨rfl, ⟨nd, rfl⟩⟩))
                                                go_ret
                                                exact ⟨by first | rfl | (simp [errW_none, errW_some] <;> rfl) | (simp [*, errW_none, errW_some] <;> rfl), by repeat (first | (with_reducible first | exact HB.out | apply below_alloc | apply pw_below_drewN | apply below_drew1) | exact HB.out)⟩
                                            · as_aux_lemma =>
                                                rw [if_neg c155] at H
                                                have c155b0 : (t241 == 0) = false := beq_eq_false_iff_ne.mpr c155
                                                have c155b1 : (t241 != 0) = true := bne_iff_ne.mpr c155
                                                obtain rfl := Option.some.inj H
                                                obtain ⟨Ao163, co163, eo163⟩ := Kd.R_slice HO_13.out
                                                subst eo163
                                                obtain ⟨Ao164, co164, eo164⟩ := Kd.R_slice HO_15.out
                                                subst eo164
                                                go_wp2_with (first | (go_at_call 40; (with_reducible refine (slices_Equal_api_Track_int.calls k6 _ _ t199 _ _ x15_22 true _ ?side1 ?side2 ?side3 ?side4 A150.out).mono ?_); (case side1 => repeat (first | exact (Kd.R_reads' HO_13.out).2.2 | (with_reducible refine Kd.C_alloc ?_ _) | (with_reducible refine Kd.C_drewN ?_ _) | (with_reducible refine Kd.C_drew ?_))); (case side2 => exact (Kd.R_reads' HO_13.out).2.1); (case side3 => repeat (first | exact (Kd.R_reads' HO_15.out).2.2 | (with_reducible refine Kd.C_alloc ?_ _) | (with_reducible refine Kd.C_drewN ?_ _) | (with_reducible refine Kd.C_drew ?_))); (case side4 => exact (Kd.R_reads' HO_15.out).2.1); rintro e w' ⟨rfl, ⟨nd, rfl⟩⟩; obtain ⟨Ao165, co165, eo165⟩ := Kd.R_slice HO_24.out; subst eo165; obtain ⟨Ao166, co166, eo166⟩ := Kd.R_slice HO_26.out; subst eo166) | (go_at_call 35; (with_reducible refine (slices_Equal_int_int.calls k6 _ _ t232 _ _ t236 true _ ?side1 ?side2 ?side3 ?side4 A153.out).mono ?_); (case side1 => repeat (first | exact (Kd.R_reads' HO_24.out).2.2 | (with_reducible refine Kd.C_alloc ?_ _) | (with_reducible refine Kd.C_drewN ?_ _) | (with_reducible refine Kd.C_drew ?_))); (case side2 => exact (Kd.R_reads' HO_24.out).2.1); (case side3 => repeat (first | exact (Kd.R_reads' HO_26.out).2.2 | (with_reducible refine Kd.C_alloc ?_ _) | (with_reducible refine Kd.C_drewN ?_ _) | (with_reducible refine Kd.C_drew ?_))); (case side4 => exact (Kd.R_reads' HO_26.out).2.1); rintro e w' ⟨rfl, ⟨nd, rfl⟩⟩))
                                                go_ret
                                                exact ⟨by first | rfl | (simp [errW_none, errW_some] <;> rfl) | (simp [*, errW_none, errW_some] <;> rfl), by repeat (first | (with_reducible first | exact HB.out | apply below_alloc | apply pw_below_drewN | apply below_drew1) | exact HB.out)⟩
                                          · as_aux_lemma =>
                                              replace c154 := Bool.eq_false_iff.mpr c154
                                              subst c154
                                              have H1 : (some false) = some r := by rw [if_neg (show ¬ (false = true) by decide)] at H; exact H
                                              clear H
                                              have H := H1
                                              clear H1
                                              obtain rfl := Option.some.inj H
                                              obtain ⟨Ao167, co167, eo167⟩ := Kd.R_slice HO_13.out
                                              subst eo167
                                              obtain ⟨Ao168, co168, eo168⟩ := Kd.R_slice HO_15.out
                                              subst eo168
                                              go_wp2_with (first | (go_at_call 40; (with_reducible refine (slices_Equal_api_Track_int.calls k6 _ _ t199 _ _ x15_22 true _ ?side1 ?side2 ?side3 ?side4 A150.out).mono ?_); (case side1 => repeat (first | exact (Kd.R_reads' HO_13.out).2.2 | (with_reducible refine Kd.C_alloc ?_ _) | (with_reducible refine Kd.C_drewN ?_ _) | (with_reducible refine Kd.C_drew ?_))); (case side2 => exact (Kd.R_reads' HO_13.out).2.1); (case side3 => repeat (first | exact (Kd.R_reads' HO_15.out).2.2 | (with_reducible refine Kd.C_alloc ?_ _) | (with_reducible refine Kd.C_drewN ?_ _) | (with_reducible refine Kd.C_drew ?_))); (case side4 => exact (Kd.R_reads' HO_15.out).2.1); rintro e w' ⟨rfl, ⟨nd, rfl⟩⟩; obtain ⟨Ao169, co169, eo169⟩ := Kd.R_slice HO_24.out; subst eo169; obtain ⟨Ao170, co170, eo170⟩ := Kd.R_slice HO_26.out; subst eo170) | (go_at_call 35; (with_reducible refine (slices_Equal_int_int.calls k6 _ _ t232 _ _ t236 false _ ?side1 ?side2 ?side3 ?side4 A153.out).mono ?_); (case side1 => repeat (first | exact (Kd.R_reads' HO_24.out).2.2 | (with_reducible refine Kd.C_alloc ?_ _) | (with_reducible refine Kd.C_drewN ?_ _) | (with_reducible refine Kd.C_drew ?_))); (case side2 => exact (Kd.R_reads' HO_24.out).2.1); (case side3 => repeat (first | exact (Kd.R_reads' HO_26.out).2.2 | (with_reducible refine Kd.C_alloc ?_ _) | (with_reducible refine Kd.C_drewN ?_ _) | (with_reducible refine Kd.C_drew ?_))); (case side4 => exact (Kd.R_reads' HO_26.out).2.1); rintro e w' ⟨rfl, ⟨nd, rfl⟩⟩))
                                              go_ret
                                              exact ⟨by first | rfl | (simp [errW_none, errW_some] <;> rfl) | (simp [*, errW_none, errW_some] <;> rfl), by repeat (first | (with_reducible first | exact HB.out | apply below_alloc | apply pw_below_drewN | apply below_drew1) | exact HB.out)⟩
                                        · as_aux_lemma =>
                                            rw [if_neg c152] at H
                                            have c152b0 : (t233 == t237) = false := beq_eq_false_iff_ne.mpr c152
                                            have c152b1 : (t233 != t237) = true := bne_iff_ne.mpr c152
                                            obtain rfl := Option.some.inj H
                                            obtain ⟨Ao171, co171, eo171⟩ := Kd.R_slice HO_13.out
                                            subst eo171
                                            obtain ⟨Ao172, co172, eo172⟩ := Kd.R_slice HO_15.out
                                            subst eo172
                                            go_wp2_with (first | (go_at_call 40; (with_reducible refine (slices_Equal_api_Track_int.calls k6 _ _ t199 _ _ x15_22 true _ ?side1 ?side2 ?side3 ?side4 A150.out).mono ?_); (case side1 => repeat (first | exact (Kd.R_reads' HO_13.out).2.2 | (with_reducible refine Kd.C_alloc ?_ _) | (with_reducible refine Kd.C_drewN ?_ _) | (with_reducible refine Kd.C_drew ?_))); (case side2 => exact (Kd.R_reads' HO_13.out).2.1); (case side3 => repeat (first | exact (Kd.R_reads' HO_15.out).2.2 | (with_reducible refine Kd.C_alloc ?_ _) | (with_reducible refine Kd.C_drewN ?_ _) | (with_reducible refine Kd.C_drew ?_))); (case side4 => exact (Kd.R_reads' HO_15.out).2.1); rintro e w' ⟨rfl, ⟨nd, rfl⟩⟩))
                                            go_ret
                                            exact ⟨by first | rfl | (simp [errW_none, errW_some] <;> rfl) | (simp [*, errW_none, errW_some] <;> rfl), by repeat (first | (with_reducible first | exact HB.out | apply below_alloc | apply pw_below_drewN | apply below_drew1) | exact HB.out)⟩
                                      · as_aux_lemma =>
                                          replace c151 := Bool.eq_false_iff.mpr c151
                                          subst c151
                                          have H1 : (some false) = some r := by rw [if_neg (show ¬ (false = true) by decide)] at H; exact H
                                          clear H
                                          have H := H1
                                          clear H1
                                          obtain rfl := Option.some.inj H
                                          obtain ⟨Ao173, co173, eo173⟩ := Kd.R_slice HO_13.out
                                          subst eo173
                                          obtain ⟨Ao174, co174, eo174⟩ := Kd.R_slice HO_15.out
                                          subst eo174
                                          go_wp2_with (first | (go_at_call 40; (with_reducible refine (slices_Equal_api_Track_int.calls k6 _ _ t199 _ _ x15_22 false _ ?side1 ?side2 ?side3 ?side4 A150.out).mono ?_); (case side1 => repeat (first | exact (Kd.R_reads' HO_13.out).2.2 | (with_reducible refine Kd.C_alloc ?_ _) | (with_reducible refine Kd.C_drewN ?_ _) | (with_reducible refine Kd.C_drew ?_))); (case side2 => exact (Kd.R_reads' HO_13.out).2.1); (case side3 => repeat (first | exact (Kd.R_reads' HO_15.out).2.2 | (with_reducible refine Kd.C_alloc ?_ _) | (with_reducible refine Kd.C_drewN ?_ _) | (with_reducible refine Kd.C_drew ?_))); (case side4 => exact (Kd.R_reads' HO_15.out).2.1); rintro e w' ⟨rfl, ⟨nd, rfl⟩⟩))
                                          go_ret
                                          exact ⟨by first | rfl | (simp [errW_none, errW_some] <;> rfl) | (simp [*, errW_none, errW_some] <;> rfl), by repeat (first | (with_reducible first | exact HB.out | apply below_alloc | apply pw_below_drewN | apply below_drew1) | exact HB.out)⟩
                                    · as_aux_lemma =>
                                        rw [if_neg c149] at H
                                        have c149b0 : (t200 == x16_22) = false := beq_eq_false_iff_ne.mpr c149
                                        have c149b1 : (t200 != x16_22) = true := bne_iff_ne.mpr c149
                                        obtain rfl := Option.some.inj H
                                        go_wp2
                                        go_ret
                                        exact ⟨by first | rfl | (simp [errW_none, errW_some] <;> rfl) | (simp [*, errW_none, errW_some] <;> rfl), by repeat (first | (with_reducible first | exact HB.out | apply below_alloc | apply pw_below_drewN | apply below_drew1) | exact HB.out)⟩
  · as_aux_lemma =>
      replace c8 := Bool.eq_false_iff.mpr c8
      subst c8
      have H1 : (some false) = some r := by rw [if_neg (show ¬ (false = true) by decide)] at H; exact H
      clear H
      have H := H1
      clear H1
      obtain rfl := Option.some.inj H
      go_enter Try.func13, Try.ntmps13
      go_wp2_with (first | ((with_reducible refine gate_callee (f := 30) rfl ?_); refine goesL_ (some 34) rfl rfl Try.func30 (by kernel_rfl) rfl #[] rfl (by (try simp only [List.map_toArray, List.map_cons, List.map_nil]); first | done | rfl | (simp only [List.length_drop, List.length_take]; rfl)) ?_; (with_reducible refine (bakelaw2_fluxBegun.calls k  false _ A7.out).mono ?_); rintro e w175 ⟨rfl, hb⟩; refine ⟨_, rfl, ?_⟩; have n0_ := Aside0.mk (below_step (by repeat (first | (with_reducible first | exact HB.out | apply below_alloc | apply pw_below_drewN | apply below_drew1) | exact HB.out)) hb); clear HB; have HB := n0_; clear n0_; (try clear hb); (try clear hb2); (try clear hk); (try clear hi)))
      go_ret
      exact ⟨by first | rfl | (simp [errW_none, errW_some] <;> rfl) | (simp [*, errW_none, errW_some] <;> rfl), by repeat (first | (with_reducible first | exact HB.out | apply below_alloc | apply pw_below_drewN | apply below_drew1) | exact HB.out)⟩

/-- THE ONE PURE STATEMENT of bakelaw2_FluxCells. -/
def bakelaw2_FluxCells.Pure : Prop := ∀ (x0 : List Int) (x1 : List Int) (x2 : Int) (x3 : Int) (x4 : Int) (x5 : List Int), (∀ y0 ∈ x0, ((Lit.int .i64 y0).wf = true)) → (x0.length * 8 ≤ 140737488351232 ∧ ∀ y0 ∈ x0, (True)) → (∀ y0 ∈ x1, ((Lit.int .i64 y0).wf = true)) → (x1.length * 8 ≤ 140737488351232 ∧ ∀ y0 ∈ x1, (True)) → (Lit.int .i64 x2).wf = true → (Lit.int .i64 x3).wf = true → (Lit.int .i64 x4).wf = true → (∀ y0 ∈ x5, ((Lit.int .i64 y0).wf = true)) → (x5.length * 8 ≤ 140737488351232 ∧ ∀ y0 ∈ x5, (True)) → ∃ k, bakelaw2_FluxCells.f k x0 x1 x2 x3 x4 x5 = some true

end Go.Proofs.Ytgiodeiibmbhhaa.PFluxCells
