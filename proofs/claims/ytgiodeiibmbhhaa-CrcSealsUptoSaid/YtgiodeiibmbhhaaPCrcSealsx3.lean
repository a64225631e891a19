-- Written by this session's own program (wip/mp, over the kit's print) for this claim; Lean checks it.
import Derived.Test.YtgiodeiibmbhhaaPCrcSealsx0
import Derived.Test.YtgiodeiibmbhhaaPCrcSealsx1
import Derived.Test.YtgiodeiibmbhhaaPCrcSealsx2
namespace Go.Proofs.Ytgiodeiibmbhhaa.PCrcSeals
open Go.RowKit Go.Proofs.YtgiodeiibmbhhaaW.PrintWords Go.Proofs.YtgiodeiibmbhhaaW.PrintLast Go.Proofs.YtgiodeiibmbhhaaW.PrintMore
attribute [local go_sem] max2_int min2_int max_two min_two max_three min_three max_four min_four   -- for this text's walks alone
set_option linter.unusedVariables false
set_option linter.unusedSimpArgs false

/-! ### bakelaw2_CrcSeals: function 5 -/
mutual
def bakelaw2_CrcSeals.j0 : Nat → List Int → List Int → Bool → Option (Bool)
  | 0, _, _, _ => none
  | k + 1, x0, x1, x23 => if x23 = true then (some false) else ((crc_Open.f k x1).bind fun bt177 => ((bakeref2_Unsealed.f k x1).bind fun bt181 => (if (bt177.2 != bt181.2) = true then (bakelaw2_CrcSeals.j1 k x0 x1 true) else ((slices_Equal_byte_byte.f k bt177.1 bt181.1).bind fun t185 => (bakelaw2_CrcSeals.j1 k x0 x1 (!t185))))))
def bakelaw2_CrcSeals.j1 : Nat → List Int → List Int → Bool → Option (Bool)
  | 0, _, _, _ => none
  | k + 1, x0, x1, x42 => if x42 = true then (some false) else (if (x0.length : Int) = (x1.length : Int) then ((bakeref2_Bits.f k x0).bind fun t186 => ((bakeref2_Bits.f k x1).bind fun t189 => (bakelaw2_CrcSeals.l0 k x0 x1 0 t186 t189 (t186.length : Int) 0))) else ((crc_Burst.f k x0 x1).bind fun t204 => (some (t204 == (-1)))))
def bakelaw2_CrcSeals.l0 : Nat → List Int → List Int → Int → List Bool → List Bool → Int → Int → Option (Bool)
  | 0, _, _, _, _, _, _, _ => none
  | k + 1, x0, x1, x9, x10, x11, x53, x54 => if x54 < x53 then (bakelaw2_CrcSeals.l1 k x0 x1 x9 x10 x11 x54 x54 x53 x54) else ((crc_Burst.f k x0 x1).bind fun t192 => (some (t192 == x9)))
def bakelaw2_CrcSeals.l1 : Nat → List Int → List Int → Int → List Bool → List Bool → Int → Int → Int → Int → Option (Bool)
  | 0, _, _, _, _, _, _, _, _, _ => none
  | k + 1, x0, x1, x9, x10, x11, x12, x13, x53, x54 => if x13 < (x10.length : Int) then (bakelaw2_CrcSeals.j4 k x0 x1 x9 x10 x11 x12 x13 x53 x54 (x9 == 0)) else (bakelaw2_CrcSeals.j4 k x0 x1 x9 x10 x11 x12 x13 x53 x54 false)
def bakelaw2_CrcSeals.j4 : Nat → List Int → List Int → Int → List Bool → List Bool → Int → Int → Int → Int → Bool → Option (Bool)
  | 0, _, _, _, _, _, _, _, _, _, _ => none
  | k + 1, x0, x1, x9, x10, x11, x12, x13, x53, x54, x65 => if x65 = true then (if 0 ≤ x12 then (if x12 < (x10.length : Int) then (if x12 < (x11.length : Int) then (if ((rdOf false x10 x12) != (rdOf false x11 x12)) = true then (if 0 ≤ (wrap64 (x13 + 1)) then (if (wrap64 (x13 + 1)) ≤ (x10.length : Int) then (if (wrap64 (x13 + 1)) ≤ (x11.length : Int) then ((slices_Equal_bool_bool.f k (x10.drop ((wrap64 (x13 + 1)) : Int).toNat) (x11.drop ((wrap64 (x13 + 1)) : Int).toNat)).bind fun t203 => (if t203 = true then (bakelaw2_CrcSeals.l1 k x0 x1 (wrap64 ((wrap64 (x13 - x12)) + 1)) x10 x11 x12 (wrap64 (x13 + 1)) x53 x54) else (bakelaw2_CrcSeals.l1 k x0 x1 x9 x10 x11 x12 (wrap64 (x13 + 1)) x53 x54))) else (none)) else (none)) else (none)) else (bakelaw2_CrcSeals.l1 k x0 x1 x9 x10 x11 x12 (wrap64 (x13 + 1)) x53 x54)) else (none)) else (none)) else (none)) else (bakelaw2_CrcSeals.l0 k x0 x1 x9 x10 x11 x53 (wrap64 (x54 + 1)))
end
def bakelaw2_CrcSeals.f (k : Nat) (l0 : List Int) (l1 : List Int) : Option (Bool) := (bakelaw2_crcBegun.f k).bind fun t169 => (if t169 = true then ((crc_Seal.f k l0).bind fun t170 => ((bakeref2_Sealed.f k l0).bind fun t173 => ((slices_Equal_byte_byte.f k t170 t173).bind fun t176 => (bakelaw2_CrcSeals.j0 k l0 l1 (!t176))))) else (bakelaw2_CrcSeals.j0 k l0 l1 true))
theorem bakelaw2_CrcSeals.mono_l : ∀ k, (∀ y0 y1 y2, LeO (bakelaw2_CrcSeals.j0 k y0 y1 y2) (bakelaw2_CrcSeals.j0 (k + 1) y0 y1 y2)) ∧ (∀ y0 y1 y2, LeO (bakelaw2_CrcSeals.j1 k y0 y1 y2) (bakelaw2_CrcSeals.j1 (k + 1) y0 y1 y2)) ∧ (∀ y0 y1 y2 y3 y4 y5 y6, LeO (bakelaw2_CrcSeals.l0 k y0 y1 y2 y3 y4 y5 y6) (bakelaw2_CrcSeals.l0 (k + 1) y0 y1 y2 y3 y4 y5 y6)) ∧ (∀ y0 y1 y2 y3 y4 y5 y6 y7 y8, LeO (bakelaw2_CrcSeals.l1 k y0 y1 y2 y3 y4 y5 y6 y7 y8) (bakelaw2_CrcSeals.l1 (k + 1) y0 y1 y2 y3 y4 y5 y6 y7 y8)) ∧ (∀ y0 y1 y2 y3 y4 y5 y6 y7 y8 y9, LeO (bakelaw2_CrcSeals.j4 k y0 y1 y2 y3 y4 y5 y6 y7 y8 y9) (bakelaw2_CrcSeals.j4 (k + 1) y0 y1 y2 y3 y4 y5 y6 y7 y8 y9))
  | 0 => ⟨fun _ _ _ r h => by simp [bakelaw2_CrcSeals.j0] at h, fun _ _ _ r h => by simp [bakelaw2_CrcSeals.j1] at h, fun _ _ _ _ _ _ _ r h => by simp [bakelaw2_CrcSeals.l0] at h, fun _ _ _ _ _ _ _ _ _ r h => by simp [bakelaw2_CrcSeals.l1] at h, fun _ _ _ _ _ _ _ _ _ _ r h => by simp [bakelaw2_CrcSeals.j4] at h⟩
  | k + 1 => by
    obtain ⟨ih0, ih1, ih2, ih3, ih4⟩ := bakelaw2_CrcSeals.mono_l k
    refine ⟨?_, ?_, ?_, ?_, ?_⟩
    · intro y0 y1 y2
      unfold bakelaw2_CrcSeals.j0
      repeat' first
      | (with_reducible exact ih0 _ _ _)
      | (with_reducible exact ih1 _ _ _)
      | (with_reducible exact ih2 _ _ _ _ _ _ _)
      | (with_reducible exact ih3 _ _ _ _ _ _ _ _ _)
      | (with_reducible exact ih4 _ _ _ _ _ _ _ _ _ _)
      | (with_reducible exact bakelaw2_crcBegun.mono _)
      | (with_reducible exact bakeref2_Bits.mono _ _)
      | (with_reducible exact bakeref2_Sealed.mono _ _)
      | (with_reducible exact bakeref2_Unsealed.mono _ _)
      | (with_reducible exact crc_Burst.mono _ _ _)
      | (with_reducible exact crc_Open.mono _ _)
      | (with_reducible exact crc_Seal.mono _ _)
      | (with_reducible exact slices_Equal_bool_bool.mono _ _ _)
      | (with_reducible exact slices_Equal_byte_byte.mono _ _ _)
      | (with_reducible exact LeO.refl _)
      | (with_reducible exact LeO.none _)
      | (with_reducible refine LeO.ite ?_ ?_)
      | (with_reducible refine LeO.bind ?_ (fun _ => ?_))
      | exact ih0 _ _ _
      | exact ih1 _ _ _
      | exact ih2 _ _ _ _ _ _ _
      | exact ih3 _ _ _ _ _ _ _ _ _
      | exact ih4 _ _ _ _ _ _ _ _ _ _
      | exact bakelaw2_crcBegun.mono _
      | exact bakeref2_Bits.mono _ _
      | exact bakeref2_Sealed.mono _ _
      | exact bakeref2_Unsealed.mono _ _
      | exact crc_Burst.mono _ _ _
      | exact crc_Open.mono _ _
      | exact crc_Seal.mono _ _
      | exact slices_Equal_bool_bool.mono _ _ _
      | exact slices_Equal_byte_byte.mono _ _ _
      | exact LeO.none _
      | refine LeO.ite ?_ ?_
      | refine LeO.bind ?_ (fun _ => ?_)
    · intro y0 y1 y2
      unfold bakelaw2_CrcSeals.j1
      repeat' first
      | (with_reducible exact ih0 _ _ _)
      | (with_reducible exact ih1 _ _ _)
      | (with_reducible exact ih2 _ _ _ _ _ _ _)
      | (with_reducible exact ih3 _ _ _ _ _ _ _ _ _)
      | (with_reducible exact ih4 _ _ _ _ _ _ _ _ _ _)
      | (with_reducible exact bakelaw2_crcBegun.mono _)
      | (with_reducible exact bakeref2_Bits.mono _ _)
      | (with_reducible exact bakeref2_Sealed.mono _ _)
      | (with_reducible exact bakeref2_Unsealed.mono _ _)
      | (with_reducible exact crc_Burst.mono _ _ _)
      | (with_reducible exact crc_Open.mono _ _)
      | (with_reducible exact crc_Seal.mono _ _)
      | (with_reducible exact slices_Equal_bool_bool.mono _ _ _)
      | (with_reducible exact slices_Equal_byte_byte.mono _ _ _)
      | (with_reducible exact LeO.refl _)
      | (with_reducible exact LeO.none _)
      | (with_reducible refine LeO.ite ?_ ?_)
      | (with_reducible refine LeO.bind ?_ (fun _ => ?_))
      | exact ih0 _ _ _
      | exact ih1 _ _ _
      | exact ih2 _ _ _ _ _ _ _
      | exact ih3 _ _ _ _ _ _ _ _ _
      | exact ih4 _ _ _ _ _ _ _ _ _ _
      | exact bakelaw2_crcBegun.mono _
      | exact bakeref2_Bits.mono _ _
      | exact bakeref2_Sealed.mono _ _
      | exact bakeref2_Unsealed.mono _ _
      | exact crc_Burst.mono _ _ _
      | exact crc_Open.mono _ _
      | exact crc_Seal.mono _ _
      | exact slices_Equal_bool_bool.mono _ _ _
      | exact slices_Equal_byte_byte.mono _ _ _
      | exact LeO.none _
      | refine LeO.ite ?_ ?_
      | refine LeO.bind ?_ (fun _ => ?_)
    · intro y0 y1 y2 y3 y4 y5 y6
      unfold bakelaw2_CrcSeals.l0
      repeat' first
      | (with_reducible exact ih0 _ _ _)
      | (with_reducible exact ih1 _ _ _)
      | (with_reducible exact ih2 _ _ _ _ _ _ _)
      | (with_reducible exact ih3 _ _ _ _ _ _ _ _ _)
      | (with_reducible exact ih4 _ _ _ _ _ _ _ _ _ _)
      | (with_reducible exact bakelaw2_crcBegun.mono _)
      | (with_reducible exact bakeref2_Bits.mono _ _)
      | (with_reducible exact bakeref2_Sealed.mono _ _)
      | (with_reducible exact bakeref2_Unsealed.mono _ _)
      | (with_reducible exact crc_Burst.mono _ _ _)
      | (with_reducible exact crc_Open.mono _ _)
      | (with_reducible exact crc_Seal.mono _ _)
      | (with_reducible exact slices_Equal_bool_bool.mono _ _ _)
      | (with_reducible exact slices_Equal_byte_byte.mono _ _ _)
      | (with_reducible exact LeO.refl _)
      | (with_reducible exact LeO.none _)
      | (with_reducible refine LeO.ite ?_ ?_)
      | (with_reducible refine LeO.bind ?_ (fun _ => ?_))
      | exact ih0 _ _ _
      | exact ih1 _ _ _
      | exact ih2 _ _ _ _ _ _ _
      | exact ih3 _ _ _ _ _ _ _ _ _
      | exact ih4 _ _ _ _ _ _ _ _ _ _
      | exact bakelaw2_crcBegun.mono _
      | exact bakeref2_Bits.mono _ _
      | exact bakeref2_Sealed.mono _ _
      | exact bakeref2_Unsealed.mono _ _
      | exact crc_Burst.mono _ _ _
      | exact crc_Open.mono _ _
      | exact crc_Seal.mono _ _
      | exact slices_Equal_bool_bool.mono _ _ _
      | exact slices_Equal_byte_byte.mono _ _ _
      | exact LeO.none _
      | refine LeO.ite ?_ ?_
      | refine LeO.bind ?_ (fun _ => ?_)
    · intro y0 y1 y2 y3 y4 y5 y6 y7 y8
      unfold bakelaw2_CrcSeals.l1
      repeat' first
      | (with_reducible exact ih0 _ _ _)
      | (with_reducible exact ih1 _ _ _)
      | (with_reducible exact ih2 _ _ _ _ _ _ _)
      | (with_reducible exact ih3 _ _ _ _ _ _ _ _ _)
      | (with_reducible exact ih4 _ _ _ _ _ _ _ _ _ _)
      | (with_reducible exact bakelaw2_crcBegun.mono _)
      | (with_reducible exact bakeref2_Bits.mono _ _)
      | (with_reducible exact bakeref2_Sealed.mono _ _)
      | (with_reducible exact bakeref2_Unsealed.mono _ _)
      | (with_reducible exact crc_Burst.mono _ _ _)
      | (with_reducible exact crc_Open.mono _ _)
      | (with_reducible exact crc_Seal.mono _ _)
      | (with_reducible exact slices_Equal_bool_bool.mono _ _ _)
      | (with_reducible exact slices_Equal_byte_byte.mono _ _ _)
      | (with_reducible exact LeO.refl _)
      | (with_reducible exact LeO.none _)
      | (with_reducible refine LeO.ite ?_ ?_)
      | (with_reducible refine LeO.bind ?_ (fun _ => ?_))
      | exact ih0 _ _ _
      | exact ih1 _ _ _
      | exact ih2 _ _ _ _ _ _ _
      | exact ih3 _ _ _ _ _ _ _ _ _
      | exact ih4 _ _ _ _ _ _ _ _ _ _
      | exact bakelaw2_crcBegun.mono _
      | exact bakeref2_Bits.mono _ _
      | exact bakeref2_Sealed.mono _ _
      | exact bakeref2_Unsealed.mono _ _
      | exact crc_Burst.mono _ _ _
      | exact crc_Open.mono _ _
      | exact crc_Seal.mono _ _
      | exact slices_Equal_bool_bool.mono _ _ _
      | exact slices_Equal_byte_byte.mono _ _ _
      | exact LeO.none _
      | refine LeO.ite ?_ ?_
      | refine LeO.bind ?_ (fun _ => ?_)
    · intro y0 y1 y2 y3 y4 y5 y6 y7 y8 y9
      unfold bakelaw2_CrcSeals.j4
      repeat' first
      | (with_reducible exact ih0 _ _ _)
      | (with_reducible exact ih1 _ _ _)
      | (with_reducible exact ih2 _ _ _ _ _ _ _)
      | (with_reducible exact ih3 _ _ _ _ _ _ _ _ _)
      | (with_reducible exact ih4 _ _ _ _ _ _ _ _ _ _)
      | (with_reducible exact bakelaw2_crcBegun.mono _)
      | (with_reducible exact bakeref2_Bits.mono _ _)
      | (with_reducible exact bakeref2_Sealed.mono _ _)
      | (with_reducible exact bakeref2_Unsealed.mono _ _)
      | (with_reducible exact crc_Burst.mono _ _ _)
      | (with_reducible exact crc_Open.mono _ _)
      | (with_reducible exact crc_Seal.mono _ _)
      | (with_reducible exact slices_Equal_bool_bool.mono _ _ _)
      | (with_reducible exact slices_Equal_byte_byte.mono _ _ _)
      | (with_reducible exact LeO.refl _)
      | (with_reducible exact LeO.none _)
      | (with_reducible refine LeO.ite ?_ ?_)
      | (with_reducible refine LeO.bind ?_ (fun _ => ?_))
      | exact ih0 _ _ _
      | exact ih1 _ _ _
      | exact ih2 _ _ _ _ _ _ _
      | exact ih3 _ _ _ _ _ _ _ _ _
      | exact ih4 _ _ _ _ _ _ _ _ _ _
      | exact bakelaw2_crcBegun.mono _
      | exact bakeref2_Bits.mono _ _
      | exact bakeref2_Sealed.mono _ _
      | exact bakeref2_Unsealed.mono _ _
      | exact crc_Burst.mono _ _ _
      | exact crc_Open.mono _ _
      | exact crc_Seal.mono _ _
      | exact slices_Equal_bool_bool.mono _ _ _
      | exact slices_Equal_byte_byte.mono _ _ _
      | exact LeO.none _
      | refine LeO.ite ?_ ?_
      | refine LeO.bind ?_ (fun _ => ?_)
theorem bakelaw2_CrcSeals.mono : ∀ a0 a1 k, LeO (bakelaw2_CrcSeals.f k a0 a1) (bakelaw2_CrcSeals.f (k + 1) a0 a1) := by
  intro a0 a1 k
  obtain ⟨ih0, ih1, ih2, ih3, ih4⟩ := bakelaw2_CrcSeals.mono_l k
  unfold bakelaw2_CrcSeals.f
  repeat' first
      | (with_reducible exact ih0 _ _ _)
      | (with_reducible exact ih1 _ _ _)
      | (with_reducible exact ih2 _ _ _ _ _ _ _)
      | (with_reducible exact ih3 _ _ _ _ _ _ _ _ _)
      | (with_reducible exact ih4 _ _ _ _ _ _ _ _ _ _)
      | (with_reducible exact bakelaw2_crcBegun.mono _)
      | (with_reducible exact bakeref2_Bits.mono _ _)
      | (with_reducible exact bakeref2_Sealed.mono _ _)
      | (with_reducible exact bakeref2_Unsealed.mono _ _)
      | (with_reducible exact crc_Burst.mono _ _ _)
      | (with_reducible exact crc_Open.mono _ _)
      | (with_reducible exact crc_Seal.mono _ _)
      | (with_reducible exact slices_Equal_bool_bool.mono _ _ _)
      | (with_reducible exact slices_Equal_byte_byte.mono _ _ _)
      | (with_reducible exact LeO.refl _)
      | (with_reducible exact LeO.none _)
      | (with_reducible refine LeO.ite ?_ ?_)
      | (with_reducible refine LeO.bind ?_ (fun _ => ?_))
      | exact ih0 _ _ _
      | exact ih1 _ _ _
      | exact ih2 _ _ _ _ _ _ _
      | exact ih3 _ _ _ _ _ _ _ _ _
      | exact ih4 _ _ _ _ _ _ _ _ _ _
      | exact bakelaw2_crcBegun.mono _
      | exact bakeref2_Bits.mono _ _
      | exact bakeref2_Sealed.mono _ _
      | exact bakeref2_Unsealed.mono _ _
      | exact crc_Burst.mono _ _ _
      | exact crc_Open.mono _ _
      | exact crc_Seal.mono _ _
      | exact slices_Equal_bool_bool.mono _ _ _
      | exact slices_Equal_byte_byte.mono _ _ _
      | exact LeO.none _
      | refine LeO.ite ?_ ?_
      | refine LeO.bind ?_ (fun _ => ?_)
set_option maxHeartbeats 8000000 in
set_option maxRecDepth 100000 in
theorem bakelaw2_CrcSeals.calls (k : Nat) (A0 : Option Addr) (c0 : Nat) (l0 : List Int) (A1 : Option Addr) (c1 : Nat) (l1 : List Int) (r : Bool) (w : World) (hr0 : Kd.C (Kd.int .u8) w A0 l0.length l0) (hc0 : l0.length ≤ c0) (hr1 : Kd.C (Kd.int .u8) w A1 l1.length l1) (hc1 : l1.length ≤ c1) (h : bakelaw2_CrcSeals.f k l0 l1 = some r) :
    Calls Try.prog 5 #[.slice A0 l0.length c0, .slice A1 l1.length c1] w fun e w' => e = .returned (.bool r) ∧ Below w.heap.size w w' := by
  have HR0 := Aside0.mk hr0
  have HC0 := Aside0.mk hc0
  clear hr0 hc0
  have HR1 := Aside0.mk hr1
  have HC1 := Aside0.mk hc1
  clear hr1 hc1
  have HB := Aside0.mk (Below.refl w.heap.size w)
  have H : ((bakelaw2_crcBegun.f k).bind fun t169 => (if t169 = true then ((crc_Seal.f k l0).bind fun t170 => ((bakeref2_Sealed.f k l0).bind fun t173 => ((slices_Equal_byte_byte.f k t170 t173).bind fun t176 => (bakelaw2_CrcSeals.j0 k l0 l1 (!t176))))) else (bakelaw2_CrcSeals.j0 k l0 l1 true))) = some r := h
  clear h
  have HC3 := Aside0.mk H
  clear H
  go_enter Try.func5, Try.ntmps5
  go_upto_region 1 with (fail)
  repeat (go_quiet (fail); go_upto_region 1 with (fail))
  go_cut [23] (fun v23 wc => ∃ (kq : Nat) (x23_2 : Bool), v23 = .bool x23_2 ∧ Aside0 (bakelaw2_CrcSeals.j0 kq l0 l1 x23_2 = some r) ∧ Aside0 (kq ≤ k) ∧ Aside0 (Below w.heap.size w wc))
  case first =>
    have H := HC3.out
    clear HC3
    replace H := Option.bind_eq_some_iff.mp H
    obtain ⟨t169, A40, H⟩ := H
    replace H : (if t169 = true then ((crc_Seal.f k l0).bind fun t170 => ((bakeref2_Sealed.f k l0).bind fun t173 => ((slices_Equal_byte_byte.f k t170 t173).bind fun t176 => (bakelaw2_CrcSeals.j0 k l0 l1 (!t176))))) else (bakelaw2_CrcSeals.j0 k l0 l1 true)) = some r := H
    have A4 := Aside0.mk A40
    clear A40
    by_cases c5 : t169 = true
    · subst c5
      have H1 : ((crc_Seal.f k l0).bind fun t170 => ((bakeref2_Sealed.f k l0).bind fun t173 => ((slices_Equal_byte_byte.f k t170 t173).bind fun t176 => (bakelaw2_CrcSeals.j0 k l0 l1 (!t176))))) = some r := by rw [if_pos rfl] at H; exact H
      clear H
      have H := H1
      clear H1
      replace H := Option.bind_eq_some_iff.mp H
      obtain ⟨t170, A60, H⟩ := H
      replace H : ((bakeref2_Sealed.f k l0).bind fun t173 => ((slices_Equal_byte_byte.f k t170 t173).bind fun t176 => (bakelaw2_CrcSeals.j0 k l0 l1 (!t176)))) = some r := H
      have A6 := Aside0.mk A60
      clear A60
      replace H := Option.bind_eq_some_iff.mp H
      obtain ⟨t173, A70, H⟩ := H
      replace H : ((slices_Equal_byte_byte.f k t170 t173).bind fun t176 => (bakelaw2_CrcSeals.j0 k l0 l1 (!t176))) = some r := H
      have A7 := Aside0.mk A70
      clear A70
      replace H := Option.bind_eq_some_iff.mp H
      obtain ⟨t176, A80, H⟩ := H
      replace H : (bakelaw2_CrcSeals.j0 k l0 l1 (!t176)) = some r := H
      have A8 := Aside0.mk A80
      clear A80
      have H' := Aside0.mk H
      clear H
      go_wp2_with (first | (go_at_call 14; (with_reducible refine (bakelaw2_crcBegun.calls k  true _ A4.out).mono ?_); rintro e w9 ⟨rfl, hb⟩; have n0_ := Aside0.mk (below_step (by repeat (first | (with_reducible first | exact HB.out | apply below_alloc | apply pw_below_drewN | apply below_drew1) | exact HB.out)) hb); clear HB; have HB := n0_; clear n0_; (try clear hb); (try clear hb2); (try clear hk); (try clear hi)) | (go_at_call 23; (with_reducible refine (crc_Seal.calls k _ _ l0 t170 _ ?side1 ?side2 A6.out).mono ?_); (case side1 => repeat (first | exact (Kd.C_below HR0.out HB.out) | (with_reducible refine Kd.C_alloc ?_ _) | (with_reducible refine Kd.C_drewN ?_ _) | (with_reducible refine Kd.C_drew ?_))); (case side2 => exact HC0.out); rintro e w10 ⟨v171, rfl, ho0, hb⟩; have n0_ := Aside0.mk (Kd.R_lower ho0 (below_size (by repeat (first | (with_reducible first | exact HB.out | apply below_alloc | apply pw_below_drewN | apply below_drew1) | exact HB.out)))); have n1_ := Aside0.mk (below_step (by repeat (first | (with_reducible first | exact HB.out | apply below_alloc | apply pw_below_drewN | apply below_drew1) | exact HB.out)) hb); clear HB; have HO172 := n0_; have HB := n1_; clear n0_ n1_; (try clear hb); (try clear hb2); (try clear hk); (try clear hi); (try clear ho0)) | (go_at_call 24; (with_reducible refine (bakeref2_Sealed.calls k _ _ l0 t173 _ ?side1 ?side2 A7.out).mono ?_); (case side1 => repeat (first | exact (Kd.C_below HR0.out HB.out) | (with_reducible refine Kd.C_alloc ?_ _) | (with_reducible refine Kd.C_drewN ?_ _) | (with_reducible refine Kd.C_drew ?_))); (case side2 => exact HC0.out); rintro e w11 ⟨v174, rfl, ho0, hb⟩; have n0_ := Aside0.mk (Kd.R_elder' (by (with_reducible repeat (first | apply Kd.R_alloc | apply Kd.R_drewN | apply Kd.R_drew)); exact HO172.out) (Kd.R_base ho0) hb); have n1_ := Aside0.mk (Kd.R_lower (Kd.R_new' ho0 (Kd.R_lt (by (with_reducible repeat (first | apply Kd.R_alloc | apply Kd.R_drewN | apply Kd.R_drew)); exact HO172.out))) (below_size (by repeat (first | (with_reducible first | exact HB.out | apply below_alloc | apply pw_below_drewN | apply below_drew1) | exact HB.out)))); have n2_ := Aside0.mk (below_step (by repeat (first | (with_reducible first | exact HB.out | apply below_alloc | apply pw_below_drewN | apply below_drew1) | exact HB.out)) hb); clear HO172; clear HB; have HO172 := n0_; have HO175 := n1_; have HB := n2_; clear n0_ n1_ n2_; (try clear hb); (try clear hb2); (try clear hk); (try clear hi); (try clear ho0); obtain ⟨Ao12, co12, eo12⟩ := Kd.R_slice HO172.out; subst eo12; obtain ⟨Ao13, co13, eo13⟩ := Kd.R_slice HO175.out; subst eo13) | (go_at_call 22; (with_reducible refine (slices_Equal_byte_byte.calls k _ _ t170 _ _ t173 t176 _ ?side1 ?side2 ?side3 ?side4 A8.out).mono ?_); (case side1 => repeat (first | exact (Kd.R_reads' HO172.out).2.2 | (with_reducible refine Kd.C_alloc ?_ _) | (with_reducible refine Kd.C_drewN ?_ _) | (with_reducible refine Kd.C_drew ?_))); (case side2 => exact (Kd.R_reads' HO172.out).2.1); (case side3 => repeat (first | exact (Kd.R_reads' HO175.out).2.2 | (with_reducible refine Kd.C_alloc ?_ _) | (with_reducible refine Kd.C_drewN ?_ _) | (with_reducible refine Kd.C_drew ?_))); (case side4 => exact (Kd.R_reads' HO175.out).2.1); rintro e w' ⟨rfl, ⟨nd, rfl⟩⟩; (try first | exact ⟨rfl, _, World.drewN_drewN _ _ _⟩ | exact ⟨rfl, _, Eq.trans (World.drewN_drewN _ _ _) (congrArg (World.drewN _) (Nat.add_assoc _ _ _))⟩)))
      repeat (go_quiet (first | (go_at_call 14; (with_reducible refine (bakelaw2_crcBegun.calls k  true _ A4.out).mono ?_); rintro e w9 ⟨rfl, hb⟩; have n0_ := Aside0.mk (below_step (by repeat (first | (with_reducible first | exact HB.out | apply below_alloc | apply pw_below_drewN | apply below_drew1) | exact HB.out)) hb); clear HB; have HB := n0_; clear n0_; (try clear hb); (try clear hb2); (try clear hk); (try clear hi)) | (go_at_call 23; (with_reducible refine (crc_Seal.calls k _ _ l0 t170 _ ?side1 ?side2 A6.out).mono ?_); (case side1 => repeat (first | exact (Kd.C_below HR0.out HB.out) | (with_reducible refine Kd.C_alloc ?_ _) | (with_reducible refine Kd.C_drewN ?_ _) | (with_reducible refine Kd.C_drew ?_))); (case side2 => exact HC0.out); rintro e w10 ⟨v171, rfl, ho0, hb⟩; have n0_ := Aside0.mk (Kd.R_lower ho0 (below_size (by repeat (first | (with_reducible first | exact HB.out | apply below_alloc | apply pw_below_drewN | apply below_drew1) | exact HB.out)))); have n1_ := Aside0.mk (below_step (by repeat (first | (with_reducible first | exact HB.out | apply below_alloc | apply pw_below_drewN | apply below_drew1) | exact HB.out)) hb); clear HB; have HO172 := n0_; have HB := n1_; clear n0_ n1_; (try clear hb); (try clear hb2); (try clear hk); (try clear hi); (try clear ho0)) | (go_at_call 24; (with_reducible refine (bakeref2_Sealed.calls k _ _ l0 t173 _ ?side1 ?side2 A7.out).mono ?_); (case side1 => repeat (first | exact (Kd.C_below HR0.out HB.out) | (with_reducible refine Kd.C_alloc ?_ _) | (with_reducible refine Kd.C_drewN ?_ _) | (with_reducible refine Kd.C_drew ?_))); (case side2 => exact HC0.out); rintro e w11 ⟨v174, rfl, ho0, hb⟩; have n0_ := Aside0.mk (Kd.R_elder' (by (with_reducible repeat (first | apply Kd.R_alloc | apply Kd.R_drewN | apply Kd.R_drew)); exact HO172.out) (Kd.R_base ho0) hb); have n1_ := Aside0.mk (Kd.R_lower (Kd.R_new' ho0 (Kd.R_lt (by (with_reducible repeat (first | apply Kd.R_alloc | apply Kd.R_drewN | apply Kd.R_drew)); exact HO172.out))) (below_size (by repeat (first | (with_reducible first | exact HB.out | apply below_alloc | apply pw_below_drewN | apply below_drew1) | exact HB.out)))); have n2_ := Aside0.mk (below_step (by repeat (first | (with_reducible first | exact HB.out | apply below_alloc | apply pw_below_drewN | apply below_drew1) | exact HB.out)) hb); clear HO172; clear HB; have HO172 := n0_; have HO175 := n1_; have HB := n2_; clear n0_ n1_ n2_; (try clear hb); (try clear hb2); (try clear hk); (try clear hi); (try clear ho0); obtain ⟨Ao12, co12, eo12⟩ := Kd.R_slice HO172.out; subst eo12; obtain ⟨Ao13, co13, eo13⟩ := Kd.R_slice HO175.out; subst eo13) | (go_at_call 22; (with_reducible refine (slices_Equal_byte_byte.calls k _ _ t170 _ _ t173 t176 _ ?side1 ?side2 ?side3 ?side4 A8.out).mono ?_); (case side1 => repeat (first | exact (Kd.R_reads' HO172.out).2.2 | (with_reducible refine Kd.C_alloc ?_ _) | (with_reducible refine Kd.C_drewN ?_ _) | (with_reducible refine Kd.C_drew ?_))); (case side2 => exact (Kd.R_reads' HO172.out).2.1); (case side3 => repeat (first | exact (Kd.R_reads' HO175.out).2.2 | (with_reducible refine Kd.C_alloc ?_ _) | (with_reducible refine Kd.C_drewN ?_ _) | (with_reducible refine Kd.C_drew ?_))); (case side4 => exact (Kd.R_reads' HO175.out).2.1); rintro e w' ⟨rfl, ⟨nd, rfl⟩⟩; (try first | exact ⟨rfl, _, World.drewN_drewN _ _ _⟩ | exact ⟨rfl, _, Eq.trans (World.drewN_drewN _ _ _) (congrArg (World.drewN _) (Nat.add_assoc _ _ _))⟩))); try go_wp2_with (first | (go_at_call 14; (with_reducible refine (bakelaw2_crcBegun.calls k  true _ A4.out).mono ?_); rintro e w9 ⟨rfl, hb⟩; have n0_ := Aside0.mk (below_step (by repeat (first | (with_reducible first | exact HB.out | apply below_alloc | apply pw_below_drewN | apply below_drew1) | exact HB.out)) hb); clear HB; have HB := n0_; clear n0_; (try clear hb); (try clear hb2); (try clear hk); (try clear hi)) | (go_at_call 23; (with_reducible refine (crc_Seal.calls k _ _ l0 t170 _ ?side1 ?side2 A6.out).mono ?_); (case side1 => repeat (first | exact (Kd.C_below HR0.out HB.out) | (with_reducible refine Kd.C_alloc ?_ _) | (with_reducible refine Kd.C_drewN ?_ _) | (with_reducible refine Kd.C_drew ?_))); (case side2 => exact HC0.out); rintro e w10 ⟨v171, rfl, ho0, hb⟩; have n0_ := Aside0.mk (Kd.R_lower ho0 (below_size (by repeat (first | (with_reducible first | exact HB.out | apply below_alloc | apply pw_below_drewN | apply below_drew1) | exact HB.out)))); have n1_ := Aside0.mk (below_step (by repeat (first | (with_reducible first | exact HB.out | apply below_alloc | apply pw_below_drewN | apply below_drew1) | exact HB.out)) hb); clear HB; have HO172 := n0_; have HB := n1_; clear n0_ n1_; (try clear hb); (try clear hb2); (try clear hk); (try clear hi); (try clear ho0)) | (go_at_call 24; (with_reducible refine (bakeref2_Sealed.calls k _ _ l0 t173 _ ?side1 ?side2 A7.out).mono ?_); (case side1 => repeat (first | exact (Kd.C_below HR0.out HB.out) | (with_reducible refine Kd.C_alloc ?_ _) | (with_reducible refine Kd.C_drewN ?_ _) | (with_reducible refine Kd.C_drew ?_))); (case side2 => exact HC0.out); rintro e w11 ⟨v174, rfl, ho0, hb⟩; have n0_ := Aside0.mk (Kd.R_elder' (by (with_reducible repeat (first | apply Kd.R_alloc | apply Kd.R_drewN | apply Kd.R_drew)); exact HO172.out) (Kd.R_base ho0) hb); have n1_ := Aside0.mk (Kd.R_lower (Kd.R_new' ho0 (Kd.R_lt (by (with_reducible repeat (first | apply Kd.R_alloc | apply Kd.R_drewN | apply Kd.R_drew)); exact HO172.out))) (below_size (by repeat (first | (with_reducible first | exact HB.out | apply below_alloc | apply pw_below_drewN | apply below_drew1) | exact HB.out)))); have n2_ := Aside0.mk (below_step (by repeat (first | (with_reducible first | exact HB.out | apply below_alloc | apply pw_below_drewN | apply below_drew1) | exact HB.out)) hb); clear HO172; clear HB; have HO172 := n0_; have HO175 := n1_; have HB := n2_; clear n0_ n1_ n2_; (try clear hb); (try clear hb2); (try clear hk); (try clear hi); (try clear ho0); obtain ⟨Ao12, co12, eo12⟩ := Kd.R_slice HO172.out; subst eo12; obtain ⟨Ao13, co13, eo13⟩ := Kd.R_slice HO175.out; subst eo13) | (go_at_call 22; (with_reducible refine (slices_Equal_byte_byte.calls k _ _ t170 _ _ t173 t176 _ ?side1 ?side2 ?side3 ?side4 A8.out).mono ?_); (case side1 => repeat (first | exact (Kd.R_reads' HO172.out).2.2 | (with_reducible refine Kd.C_alloc ?_ _) | (with_reducible refine Kd.C_drewN ?_ _) | (with_reducible refine Kd.C_drew ?_))); (case side2 => exact (Kd.R_reads' HO172.out).2.1); (case side3 => repeat (first | exact (Kd.R_reads' HO175.out).2.2 | (with_reducible refine Kd.C_alloc ?_ _) | (with_reducible refine Kd.C_drewN ?_ _) | (with_reducible refine Kd.C_drew ?_))); (case side4 => exact (Kd.R_reads' HO175.out).2.1); rintro e w' ⟨rfl, ⟨nd, rfl⟩⟩; (try first | exact ⟨rfl, _, World.drewN_drewN _ _ _⟩ | exact ⟨rfl, _, Eq.trans (World.drewN_drewN _ _ _) (congrArg (World.drewN _) (Nat.add_assoc _ _ _))⟩))))
      go_meet
      case rel => exact ⟨_, (!t176), (by first | rfl | (simp; done) | (simp [*]; done)), H', ⟨by first | omega | exact Nat.le_refl _⟩, ⟨by repeat (first | (with_reducible first | exact HB.out | apply below_alloc | apply pw_below_drewN | apply below_drew1) | exact HB.out)⟩⟩
    · replace c5 := Bool.eq_false_iff.mpr c5
      subst c5
      have H1 : (bakelaw2_CrcSeals.j0 k l0 l1 true) = some r := by rw [if_neg (show ¬ (false = true) by decide)] at H; exact H
      clear H
      have H := H1
      clear H1
      have H' := Aside0.mk H
      clear H
      go_wp2_with (first | (go_at_call 14; (with_reducible refine (bakelaw2_crcBegun.calls k  false _ A4.out).mono ?_); rintro e w14 ⟨rfl, hb⟩; have n0_ := Aside0.mk (below_step (by repeat (first | (with_reducible first | exact HB.out | apply below_alloc | apply pw_below_drewN | apply below_drew1) | exact HB.out)) hb); clear HB; have HB := n0_; clear n0_; (try clear hb); (try clear hb2); (try clear hk); (try clear hi)))
      repeat (go_quiet (first | (go_at_call 14; (with_reducible refine (bakelaw2_crcBegun.calls k  false _ A4.out).mono ?_); rintro e w14 ⟨rfl, hb⟩; have n0_ := Aside0.mk (below_step (by repeat (first | (with_reducible first | exact HB.out | apply below_alloc | apply pw_below_drewN | apply below_drew1) | exact HB.out)) hb); clear HB; have HB := n0_; clear n0_; (try clear hb); (try clear hb2); (try clear hk); (try clear hi))); try go_wp2_with (first | (go_at_call 14; (with_reducible refine (bakelaw2_crcBegun.calls k  false _ A4.out).mono ?_); rintro e w14 ⟨rfl, hb⟩; have n0_ := Aside0.mk (below_step (by repeat (first | (with_reducible first | exact HB.out | apply below_alloc | apply pw_below_drewN | apply below_drew1) | exact HB.out)) hb); clear HB; have HB := n0_; clear n0_; (try clear hb); (try clear hb2); (try clear hk); (try clear hi))))
      go_meet
      case rel => exact ⟨_, (true), (by first | rfl | (simp; done) | (simp [*]; done)), H', ⟨by first | omega | exact Nat.le_refl _⟩, ⟨by repeat (first | (with_reducible first | exact HB.out | apply below_alloc | apply pw_below_drewN | apply below_drew1) | exact HB.out)⟩⟩
  case rest =>
    clear HC3
    try clear c1
    try clear p2
    try clear c5
    obtain ⟨kq, x23_2, rfl, HA, HJ2, HB⟩ := hcut
    cases kq with
    | zero => exact absurd HA.out (by simp [bakelaw2_CrcSeals.j0])
    | succ kj2 =>
      have H := HA.out
      clear HA
      simp only [bakelaw2_CrcSeals.j0] at H
      by_cases c15 : x23_2 = true
      · subst c15
        have H1 : (some false) = some r := by rw [if_pos rfl] at H; exact H
        clear H
        have H := H1
        clear H1
        obtain rfl := Option.some.inj H
        go_wp2
        repeat (go_quiet (fail); try go_wp2)
        go_ret
        exact ⟨by first | rfl | (simp [errW_none, errW_some] <;> rfl) | (simp [*, errW_none, errW_some] <;> rfl), by repeat (first | (with_reducible first | exact HB.out | apply below_alloc | apply pw_below_drewN | apply below_drew1) | exact HB.out)⟩
      · replace c15 := Bool.eq_false_iff.mpr c15
        subst c15
        have H1 : ((crc_Open.f kj2 l1).bind fun bt177 => ((bakeref2_Unsealed.f kj2 l1).bind fun bt181 => (if (bt177.2 != bt181.2) = true then (bakelaw2_CrcSeals.j1 kj2 l0 l1 true) else ((slices_Equal_byte_byte.f kj2 bt177.1 bt181.1).bind fun t185 => (bakelaw2_CrcSeals.j1 kj2 l0 l1 (!t185)))))) = some r := by rw [if_neg (show ¬ (false = true) by decide)] at H; exact H
        clear H
        have H := H1
        clear H1
        replace H := Option.bind_eq_some_iff.mp H
        obtain ⟨⟨t177, t178⟩, A160, H⟩ := H
        replace H : ((bakeref2_Unsealed.f kj2 l1).bind fun bt181 => (if (t178 != bt181.2) = true then (bakelaw2_CrcSeals.j1 kj2 l0 l1 true) else ((slices_Equal_byte_byte.f kj2 t177 bt181.1).bind fun t185 => (bakelaw2_CrcSeals.j1 kj2 l0 l1 (!t185))))) = some r := H
        have A16 := Aside0.mk A160
        clear A160
        replace H := Option.bind_eq_some_iff.mp H
        obtain ⟨⟨t181, t182⟩, A170, H⟩ := H
        replace H : (if (t178 != t182) = true then (bakelaw2_CrcSeals.j1 kj2 l0 l1 true) else ((slices_Equal_byte_byte.f kj2 t177 t181).bind fun t185 => (bakelaw2_CrcSeals.j1 kj2 l0 l1 (!t185)))) = some r := H
        have A17 := Aside0.mk A170
        clear A170
        have HC18 := Aside0.mk H
        clear H
        go_upto_region 5 with (first | (go_at_call 25; (with_reducible refine (crc_Open.calls kj2 _ _ l1 t177 t178 _ ?side1 ?side2 A16.out).mono ?_); (case side1 => repeat (first | exact (Kd.C_below HR1.out HB.out) | (with_reducible refine Kd.C_alloc ?_ _) | (with_reducible refine Kd.C_drewN ?_ _) | (with_reducible refine Kd.C_drew ?_))); (case side2 => exact HC1.out); rintro e w19 ⟨v179, rfl, ho0, hb⟩; have n0_ := Aside0.mk (Kd.R_lower ho0 (below_size (by repeat (first | (with_reducible first | exact HB.out | apply below_alloc | apply pw_below_drewN | apply below_drew1) | exact HB.out)))); have n1_ := Aside0.mk (below_step (by repeat (first | (with_reducible first | exact HB.out | apply below_alloc | apply pw_below_drewN | apply below_drew1) | exact HB.out)) hb); clear HB; have HO180 := n0_; have HB := n1_; clear n0_ n1_; (try clear hb); (try clear hb2); (try clear hk); (try clear hi); (try clear ho0)) | (go_at_call 26; (with_reducible refine (bakeref2_Unsealed.calls kj2 _ _ l1 t181 t182 _ ?side1 ?side2 A17.out).mono ?_); (case side1 => repeat (first | exact (Kd.C_below HR1.out HB.out) | (with_reducible refine Kd.C_alloc ?_ _) | (with_reducible refine Kd.C_drewN ?_ _) | (with_reducible refine Kd.C_drew ?_))); (case side2 => exact HC1.out); rintro e w20 ⟨v183, rfl, ho0, hb⟩; have n0_ := Aside0.mk (Kd.R_elder' (by (with_reducible repeat (first | apply Kd.R_alloc | apply Kd.R_drewN | apply Kd.R_drew)); exact HO180.out) (Kd.R_base ho0) hb); have n1_ := Aside0.mk (Kd.R_lower (Kd.R_new' ho0 (Kd.R_lt (by (with_reducible repeat (first | apply Kd.R_alloc | apply Kd.R_drewN | apply Kd.R_drew)); exact HO180.out))) (below_size (by repeat (first | (with_reducible first | exact HB.out | apply below_alloc | apply pw_below_drewN | apply below_drew1) | exact HB.out)))); have n2_ := Aside0.mk (below_step (by repeat (first | (with_reducible first | exact HB.out | apply below_alloc | apply pw_below_drewN | apply below_drew1) | exact HB.out)) hb); clear HO180; clear HB; have HO180 := n0_; have HO184 := n1_; have HB := n2_; clear n0_ n1_ n2_; (try clear hb); (try clear hb2); (try clear hk); (try clear hi); (try clear ho0)))
        repeat (go_quiet (first | (go_at_call 25; (with_reducible refine (crc_Open.calls kj2 _ _ l1 t177 t178 _ ?side1 ?side2 A16.out).mono ?_); (case side1 => repeat (first | exact (Kd.C_below HR1.out HB.out) | (with_reducible refine Kd.C_alloc ?_ _) | (with_reducible refine Kd.C_drewN ?_ _) | (with_reducible refine Kd.C_drew ?_))); (case side2 => exact HC1.out); rintro e w19 ⟨v179, rfl, ho0, hb⟩; have n0_ := Aside0.mk (Kd.R_lower ho0 (below_size (by repeat (first | (with_reducible first | exact HB.out | apply below_alloc | apply pw_below_drewN | apply below_drew1) | exact HB.out)))); have n1_ := Aside0.mk (below_step (by repeat (first | (with_reducible first | exact HB.out | apply below_alloc | apply pw_below_drewN | apply below_drew1) | exact HB.out)) hb); clear HB; have HO180 := n0_; have HB := n1_; clear n0_ n1_; (try clear hb); (try clear hb2); (try clear hk); (try clear hi); (try clear ho0)) | (go_at_call 26; (with_reducible refine (bakeref2_Unsealed.calls kj2 _ _ l1 t181 t182 _ ?side1 ?side2 A17.out).mono ?_); (case side1 => repeat (first | exact (Kd.C_below HR1.out HB.out) | (with_reducible refine Kd.C_alloc ?_ _) | (with_reducible refine Kd.C_drewN ?_ _) | (with_reducible refine Kd.C_drew ?_))); (case side2 => exact HC1.out); rintro e w20 ⟨v183, rfl, ho0, hb⟩; have n0_ := Aside0.mk (Kd.R_elder' (by (with_reducible repeat (first | apply Kd.R_alloc | apply Kd.R_drewN | apply Kd.R_drew)); exact HO180.out) (Kd.R_base ho0) hb); have n1_ := Aside0.mk (Kd.R_lower (Kd.R_new' ho0 (Kd.R_lt (by (with_reducible repeat (first | apply Kd.R_alloc | apply Kd.R_drewN | apply Kd.R_drew)); exact HO180.out))) (below_size (by repeat (first | (with_reducible first | exact HB.out | apply below_alloc | apply pw_below_drewN | apply below_drew1) | exact HB.out)))); have n2_ := Aside0.mk (below_step (by repeat (first | (with_reducible first | exact HB.out | apply below_alloc | apply pw_below_drewN | apply below_drew1) | exact HB.out)) hb); clear HO180; clear HB; have HO180 := n0_; have HO184 := n1_; have HB := n2_; clear n0_ n1_ n2_; (try clear hb); (try clear hb2); (try clear hk); (try clear hi); (try clear ho0))); go_upto_region 5 with (first | (go_at_call 25; (with_reducible refine (crc_Open.calls kj2 _ _ l1 t177 t178 _ ?side1 ?side2 A16.out).mono ?_); (case side1 => repeat (first | exact (Kd.C_below HR1.out HB.out) | (with_reducible refine Kd.C_alloc ?_ _) | (with_reducible refine Kd.C_drewN ?_ _) | (with_reducible refine Kd.C_drew ?_))); (case side2 => exact HC1.out); rintro e w19 ⟨v179, rfl, ho0, hb⟩; have n0_ := Aside0.mk (Kd.R_lower ho0 (below_size (by repeat (first | (with_reducible first | exact HB.out | apply below_alloc | apply pw_below_drewN | apply below_drew1) | exact HB.out)))); have n1_ := Aside0.mk (below_step (by repeat (first | (with_reducible first | exact HB.out | apply below_alloc | apply pw_below_drewN | apply below_drew1) | exact HB.out)) hb); clear HB; have HO180 := n0_; have HB := n1_; clear n0_ n1_; (try clear hb); (try clear hb2); (try clear hk); (try clear hi); (try clear ho0)) | (go_at_call 26; (with_reducible refine (bakeref2_Unsealed.calls kj2 _ _ l1 t181 t182 _ ?side1 ?side2 A17.out).mono ?_); (case side1 => repeat (first | exact (Kd.C_below HR1.out HB.out) | (with_reducible refine Kd.C_alloc ?_ _) | (with_reducible refine Kd.C_drewN ?_ _) | (with_reducible refine Kd.C_drew ?_))); (case side2 => exact HC1.out); rintro e w20 ⟨v183, rfl, ho0, hb⟩; have n0_ := Aside0.mk (Kd.R_elder' (by (with_reducible repeat (first | apply Kd.R_alloc | apply Kd.R_drewN | apply Kd.R_drew)); exact HO180.out) (Kd.R_base ho0) hb); have n1_ := Aside0.mk (Kd.R_lower (Kd.R_new' ho0 (Kd.R_lt (by (with_reducible repeat (first | apply Kd.R_alloc | apply Kd.R_drewN | apply Kd.R_drew)); exact HO180.out))) (below_size (by repeat (first | (with_reducible first | exact HB.out | apply below_alloc | apply pw_below_drewN | apply below_drew1) | exact HB.out)))); have n2_ := Aside0.mk (below_step (by repeat (first | (with_reducible first | exact HB.out | apply below_alloc | apply pw_below_drewN | apply below_drew1) | exact HB.out)) hb); clear HO180; clear HB; have HO180 := n0_; have HO184 := n1_; have HB := n2_; clear n0_ n1_ n2_; (try clear hb); (try clear hb2); (try clear hk); (try clear hi); (try clear ho0))))
        (try simp only [Act.put, List.setIfInBounds_toArray, List.set_cons_zero, List.set_cons_succ])
        go_cut [42] (fun v42 wc => ∃ (kq : Nat) (x42_17 : Bool), v42 = .bool x42_17 ∧ Aside0 (bakelaw2_CrcSeals.j1 kq l0 l1 x42_17 = some r) ∧ Aside0 (kq ≤ kj2) ∧ Aside0 (Below w.heap.size w wc))
        case first =>
          have H := HC18.out
          clear HC18
          by_cases c21 : (t178 != t182) = true
          · rw [if_pos c21] at H
            have c21b0 : (t178 != t182) = true := c21
            (try (have c21b1 : decide (t178 = t182) = false := by simpa using c21))
            (try (have c21b2 : (t178 == t182) = false := by simpa using c21))
            (try (have c21b3 : ¬ (t178 = t182) := by simpa using c21))
            clear c21
            (first | rw [c21b0] | (simp only [i64_w, i32_w]; rw [c21b0]) | skip)
            have H' := Aside0.mk H
            clear H
            go_wp2
            repeat (go_quiet (fail); try go_wp2)
            go_meet
            case rel => exact ⟨_, (true), (by first | rfl | (simp; done) | (simp [*]; done)), H', ⟨by have := HJ2.out; first | omega | exact Nat.le_refl _⟩, ⟨by repeat (first | (with_reducible first | exact HB.out | apply below_alloc | apply pw_below_drewN | apply below_drew1) | exact HB.out)⟩⟩
          · rw [if_neg c21] at H
            have c21b0 : (t178 != t182) = false := by simpa using c21
            (try (have c21b1 : decide (t178 = t182) = true := by simpa using c21))
            (try (have c21b2 : (t178 == t182) = true := by simpa using c21))
            clear c21
            (first | rw [c21b0] | (simp only [i64_w, i32_w]; rw [c21b0]) | skip)
            replace H := Option.bind_eq_some_iff.mp H
            obtain ⟨t185, A220, H⟩ := H
            replace H : (bakelaw2_CrcSeals.j1 kj2 l0 l1 (!t185)) = some r := H
            have A22 := Aside0.mk A220
            clear A220
            have H' := Aside0.mk H
            clear H
            obtain ⟨Ao23, co23, eo23⟩ := Kd.R_slice HO180.out
            subst eo23
            obtain ⟨Ao24, co24, eo24⟩ := Kd.R_slice HO184.out
            subst eo24
            go_wp2_with (first | (go_at_call 22; (with_reducible refine (slices_Equal_byte_byte.calls kj2 _ _ t177 _ _ t181 t185 _ ?side1 ?side2 ?side3 ?side4 A22.out).mono ?_); (case side1 => repeat (first | exact (Kd.R_reads' HO180.out).2.2 | (with_reducible refine Kd.C_alloc ?_ _) | (with_reducible refine Kd.C_drewN ?_ _) | (with_reducible refine Kd.C_drew ?_))); (case side2 => exact (Kd.R_reads' HO180.out).2.1); (case side3 => repeat (first | exact (Kd.R_reads' HO184.out).2.2 | (with_reducible refine Kd.C_alloc ?_ _) | (with_reducible refine Kd.C_drewN ?_ _) | (with_reducible refine Kd.C_drew ?_))); (case side4 => exact (Kd.R_reads' HO184.out).2.1); rintro e w' ⟨rfl, ⟨nd, rfl⟩⟩; (try first | exact ⟨rfl, _, World.drewN_drewN _ _ _⟩ | exact ⟨rfl, _, Eq.trans (World.drewN_drewN _ _ _) (congrArg (World.drewN _) (Nat.add_assoc _ _ _))⟩)))
            repeat (go_quiet (first | (go_at_call 22; (with_reducible refine (slices_Equal_byte_byte.calls kj2 _ _ t177 _ _ t181 t185 _ ?side1 ?side2 ?side3 ?side4 A22.out).mono ?_); (case side1 => repeat (first | exact (Kd.R_reads' HO180.out).2.2 | (with_reducible refine Kd.C_alloc ?_ _) | (with_reducible refine Kd.C_drewN ?_ _) | (with_reducible refine Kd.C_drew ?_))); (case side2 => exact (Kd.R_reads' HO180.out).2.1); (case side3 => repeat (first | exact (Kd.R_reads' HO184.out).2.2 | (with_reducible refine Kd.C_alloc ?_ _) | (with_reducible refine Kd.C_drewN ?_ _) | (with_reducible refine Kd.C_drew ?_))); (case side4 => exact (Kd.R_reads' HO184.out).2.1); rintro e w' ⟨rfl, ⟨nd, rfl⟩⟩; (try first | exact ⟨rfl, _, World.drewN_drewN _ _ _⟩ | exact ⟨rfl, _, Eq.trans (World.drewN_drewN _ _ _) (congrArg (World.drewN _) (Nat.add_assoc _ _ _))⟩))); try go_wp2_with (first | (go_at_call 22; (with_reducible refine (slices_Equal_byte_byte.calls kj2 _ _ t177 _ _ t181 t185 _ ?side1 ?side2 ?side3 ?side4 A22.out).mono ?_); (case side1 => repeat (first | exact (Kd.R_reads' HO180.out).2.2 | (with_reducible refine Kd.C_alloc ?_ _) | (with_reducible refine Kd.C_drewN ?_ _) | (with_reducible refine Kd.C_drew ?_))); (case side2 => exact (Kd.R_reads' HO180.out).2.1); (case side3 => repeat (first | exact (Kd.R_reads' HO184.out).2.2 | (with_reducible refine Kd.C_alloc ?_ _) | (with_reducible refine Kd.C_drewN ?_ _) | (with_reducible refine Kd.C_drew ?_))); (case side4 => exact (Kd.R_reads' HO184.out).2.1); rintro e w' ⟨rfl, ⟨nd, rfl⟩⟩; (try first | exact ⟨rfl, _, World.drewN_drewN _ _ _⟩ | exact ⟨rfl, _, Eq.trans (World.drewN_drewN _ _ _) (congrArg (World.drewN _) (Nat.add_assoc _ _ _))⟩))))
            go_meet
            case rel => exact ⟨_, (!t185), (by first | rfl | (simp; done) | (simp [*]; done)), H', ⟨by have := HJ2.out; first | omega | exact Nat.le_refl _⟩, ⟨by repeat (first | (with_reducible first | exact HB.out | apply below_alloc | apply pw_below_drewN | apply below_drew1) | exact HB.out)⟩⟩
        case rest =>
          clear HC18
          try clear c1
          try clear c2
          try clear p2
          try clear c5
          try clear c15
          try clear c21
          try clear c21b0
          try clear c21b1
          try clear c21b2
          try clear p2
          obtain ⟨kq, x42_17, rfl, HA, HJ17, HB⟩ := hcut
          cases kq with
          | zero => exact absurd HA.out (by simp [bakelaw2_CrcSeals.j1])
          | succ kj17 =>
            have H := HA.out
            clear HA
            simp only [bakelaw2_CrcSeals.j1] at H
            by_cases c25 : x42_17 = true
            · subst c25
              have H1 : (some false) = some r := by rw [if_pos rfl] at H; exact H
              clear H
              have H := H1
              clear H1
              obtain rfl := Option.some.inj H
              go_wp2
              repeat (go_quiet (fail); try go_wp2)
              go_ret
              exact ⟨by first | rfl | (simp [errW_none, errW_some] <;> rfl) | (simp [*, errW_none, errW_some] <;> rfl), by repeat (first | (with_reducible first | exact HB.out | apply below_alloc | apply pw_below_drewN | apply below_drew1) | exact HB.out)⟩
            · replace c25 := Bool.eq_false_iff.mpr c25
              subst c25
              have H1 : (if (l0.length : Int) = (l1.length : Int) then ((bakeref2_Bits.f kj17 l0).bind fun t186 => ((bakeref2_Bits.f kj17 l1).bind fun t189 => (bakelaw2_CrcSeals.l0 kj17 l0 l1 0 t186 t189 (t186.length : Int) 0))) else ((crc_Burst.f kj17 l0 l1).bind fun t204 => (some (t204 == (-1))))) = some r := by rw [if_neg (show ¬ (false = true) by decide)] at H; exact H
              clear H
              have H := H1
              clear H1
              by_cases c26 : (l0.length : Int) = (l1.length : Int)
              · rw [if_pos c26] at H
                have c26b0 : ((l0.length : Int) == (l1.length : Int)) = true := beq_iff_eq.mpr c26
                have c26b1 : ((l0.length : Int) != (l1.length : Int)) = false := bne_eq_false_iff_eq.mpr c26
                have c26b2 : (l0.length == l1.length) = true := by first | simpa using c26 | (simp at c26 ⊢; omega)
                clear c26
                replace H := Option.bind_eq_some_iff.mp H
                obtain ⟨t186, A270, H⟩ := H
                replace H : ((bakeref2_Bits.f kj17 l1).bind fun t189 => (bakelaw2_CrcSeals.l0 kj17 l0 l1 0 t186 t189 (t186.length : Int) 0)) = some r := H
                have A27 := Aside0.mk A270
                clear A270
                replace H := Option.bind_eq_some_iff.mp H
                obtain ⟨t189, A280, H⟩ := H
                replace H : (bakelaw2_CrcSeals.l0 kj17 l0 l1 0 t186 t189 (t186.length : Int) 0) = some r := H
                have A28 := Aside0.mk A280
                clear A280
                have H' := Aside0.mk H
                clear H
                go_wp2_with (first | (go_at_call 27; (with_reducible refine (bakeref2_Bits.calls kj17 _ _ l0 t186 _ ?side1 ?side2 A27.out).mono ?_); (case side1 => repeat (first | exact (Kd.C_below HR0.out HB.out) | (with_reducible refine Kd.C_alloc ?_ _) | (with_reducible refine Kd.C_drewN ?_ _) | (with_reducible refine Kd.C_drew ?_))); (case side2 => exact HC0.out); rintro e w29 ⟨v187, rfl, ho0, hb⟩; have n0_ := Aside0.mk (Kd.R_lower ho0 (below_size (by repeat (first | (with_reducible first | exact HB.out | apply below_alloc | apply pw_below_drewN | apply below_drew1) | exact HB.out)))); have n1_ := Aside0.mk (below_step (by repeat (first | (with_reducible first | exact HB.out | apply below_alloc | apply pw_below_drewN | apply below_drew1) | exact HB.out)) hb); clear HB; have HO188 := n0_; have HB := n1_; clear n0_ n1_; (try clear hb); (try clear hb2); (try clear hk); (try clear hi); (try clear ho0)) | (go_at_call 27; (with_reducible refine (bakeref2_Bits.calls kj17 _ _ l1 t189 _ ?side1 ?side2 A28.out).mono ?_); (case side1 => repeat (first | exact (Kd.C_below HR1.out HB.out) | (with_reducible refine Kd.C_alloc ?_ _) | (with_reducible refine Kd.C_drewN ?_ _) | (with_reducible refine Kd.C_drew ?_))); (case side2 => exact HC1.out); rintro e w30 ⟨v190, rfl, ho0, hb⟩; have n0_ := Aside0.mk (Kd.R_elder' (by (with_reducible repeat (first | apply Kd.R_alloc | apply Kd.R_drewN | apply Kd.R_drew)); exact HO188.out) (Kd.R_base ho0) hb); have n1_ := Aside0.mk (Kd.R_lower (Kd.R_new' ho0 (Kd.R_lt (by (with_reducible repeat (first | apply Kd.R_alloc | apply Kd.R_drewN | apply Kd.R_drew)); exact HO188.out))) (below_size (by repeat (first | (with_reducible first | exact HB.out | apply below_alloc | apply pw_below_drewN | apply below_drew1) | exact HB.out)))); have n2_ := Aside0.mk (below_step (by repeat (first | (with_reducible first | exact HB.out | apply below_alloc | apply pw_below_drewN | apply below_drew1) | exact HB.out)) hb); clear HO188; clear HB; have HO188 := n0_; have HO191 := n1_; have HB := n2_; clear n0_ n1_ n2_; (try clear hb); (try clear hb2); (try clear hk); (try clear hi); (try clear ho0); obtain ⟨Ao31, co31, eo31⟩ := Kd.R_slice HO188.out; subst eo31))
                repeat (go_quiet (first | (go_at_call 27; (with_reducible refine (bakeref2_Bits.calls kj17 _ _ l0 t186 _ ?side1 ?side2 A27.out).mono ?_); (case side1 => repeat (first | exact (Kd.C_below HR0.out HB.out) | (with_reducible refine Kd.C_alloc ?_ _) | (with_reducible refine Kd.C_drewN ?_ _) | (with_reducible refine Kd.C_drew ?_))); (case side2 => exact HC0.out); rintro e w29 ⟨v187, rfl, ho0, hb⟩; have n0_ := Aside0.mk (Kd.R_lower ho0 (below_size (by repeat (first | (with_reducible first | exact HB.out | apply below_alloc | apply pw_below_drewN | apply below_drew1) | exact HB.out)))); have n1_ := Aside0.mk (below_step (by repeat (first | (with_reducible first | exact HB.out | apply below_alloc | apply pw_below_drewN | apply below_drew1) | exact HB.out)) hb); clear HB; have HO188 := n0_; have HB := n1_; clear n0_ n1_; (try clear hb); (try clear hb2); (try clear hk); (try clear hi); (try clear ho0)) | (go_at_call 27; (with_reducible refine (bakeref2_Bits.calls kj17 _ _ l1 t189 _ ?side1 ?side2 A28.out).mono ?_); (case side1 => repeat (first | exact (Kd.C_below HR1.out HB.out) | (with_reducible refine Kd.C_alloc ?_ _) | (with_reducible refine Kd.C_drewN ?_ _) | (with_reducible refine Kd.C_drew ?_))); (case side2 => exact HC1.out); rintro e w30 ⟨v190, rfl, ho0, hb⟩; have n0_ := Aside0.mk (Kd.R_elder' (by (with_reducible repeat (first | apply Kd.R_alloc | apply Kd.R_drewN | apply Kd.R_drew)); exact HO188.out) (Kd.R_base ho0) hb); have n1_ := Aside0.mk (Kd.R_lower (Kd.R_new' ho0 (Kd.R_lt (by (with_reducible repeat (first | apply Kd.R_alloc | apply Kd.R_drewN | apply Kd.R_drew)); exact HO188.out))) (below_size (by repeat (first | (with_reducible first | exact HB.out | apply below_alloc | apply pw_below_drewN | apply below_drew1) | exact HB.out)))); have n2_ := Aside0.mk (below_step (by repeat (first | (with_reducible first | exact HB.out | apply below_alloc | apply pw_below_drewN | apply below_drew1) | exact HB.out)) hb); clear HO188; clear HB; have HO188 := n0_; have HO191 := n1_; have HB := n2_; clear n0_ n1_ n2_; (try clear hb); (try clear hb2); (try clear hk); (try clear hi); (try clear ho0); obtain ⟨Ao31, co31, eo31⟩ := Kd.R_slice HO188.out; subst eo31)); try go_wp2_with (first | (go_at_call 27; (with_reducible refine (bakeref2_Bits.calls kj17 _ _ l0 t186 _ ?side1 ?side2 A27.out).mono ?_); (case side1 => repeat (first | exact (Kd.C_below HR0.out HB.out) | (with_reducible refine Kd.C_alloc ?_ _) | (with_reducible refine Kd.C_drewN ?_ _) | (with_reducible refine Kd.C_drew ?_))); (case side2 => exact HC0.out); rintro e w29 ⟨v187, rfl, ho0, hb⟩; have n0_ := Aside0.mk (Kd.R_lower ho0 (below_size (by repeat (first | (with_reducible first | exact HB.out | apply below_alloc | apply pw_below_drewN | apply below_drew1) | exact HB.out)))); have n1_ := Aside0.mk (below_step (by repeat (first | (with_reducible first | exact HB.out | apply below_alloc | apply pw_below_drewN | apply below_drew1) | exact HB.out)) hb); clear HB; have HO188 := n0_; have HB := n1_; clear n0_ n1_; (try clear hb); (try clear hb2); (try clear hk); (try clear hi); (try clear ho0)) | (go_at_call 27; (with_reducible refine (bakeref2_Bits.calls kj17 _ _ l1 t189 _ ?side1 ?side2 A28.out).mono ?_); (case side1 => repeat (first | exact (Kd.C_below HR1.out HB.out) | (with_reducible refine Kd.C_alloc ?_ _) | (with_reducible refine Kd.C_drewN ?_ _) | (with_reducible refine Kd.C_drew ?_))); (case side2 => exact HC1.out); rintro e w30 ⟨v190, rfl, ho0, hb⟩; have n0_ := Aside0.mk (Kd.R_elder' (by (with_reducible repeat (first | apply Kd.R_alloc | apply Kd.R_drewN | apply Kd.R_drew)); exact HO188.out) (Kd.R_base ho0) hb); have n1_ := Aside0.mk (Kd.R_lower (Kd.R_new' ho0 (Kd.R_lt (by (with_reducible repeat (first | apply Kd.R_alloc | apply Kd.R_drewN | apply Kd.R_drew)); exact HO188.out))) (below_size (by repeat (first | (with_reducible first | exact HB.out | apply below_alloc | apply pw_below_drewN | apply below_drew1) | exact HB.out)))); have n2_ := Aside0.mk (below_step (by repeat (first | (with_reducible first | exact HB.out | apply below_alloc | apply pw_below_drewN | apply below_drew1) | exact HB.out)) hb); clear HO188; clear HB; have HO188 := n0_; have HO191 := n1_; have HB := n2_; clear n0_ n1_ n2_; (try clear hb); (try clear hb2); (try clear hk); (try clear hi); (try clear ho0); obtain ⟨Ao31, co31, eo31⟩ := Kd.R_slice HO188.out; subst eo31)))
                go_loopg [9, 54] kj17 (fun kq v9 v54 w' => ∃ (x9_3 : Int) (x54_3 : Int), v9 = .int .i64 x9_3 ∧ v54 = .int .i64 x54_3 ∧ Aside0 (bakelaw2_CrcSeals.l0 kq l0 l1 x9_3 t186 t189 (t186.length : Int) x54_3 = some r) ∧ Aside0 (kq ≤ kj17) ∧ Aside0 (Kd.R Kd.bool 4 w' w.heap.size (fun k_ => some k_ ≠ (v190 : Value).ownBlock) (.slice Ao31 t186.length co31) t186) ∧ Aside0 (Kd.R Kd.bool 4 w' w.heap.size (fun k_ => some k_ ≠ ((.slice Ao31 t186.length co31) : Value).ownBlock) v190 t189) ∧ Aside0 (Below w.heap.size w w'))
                case atStart => exact ⟨(0), (0), (by first | rfl | (simp; done) | (simp [*]; done)), (by first | rfl | (simp; done) | (simp [*]; done)), H', ⟨Nat.le_refl _⟩, ⟨by (with_reducible repeat (first | apply Kd.R_alloc | apply Kd.R_drewN | apply Kd.R_drew)); exact Kd.R_mono HO188.out (fun _ hk => hk.2)⟩, ⟨by (with_reducible repeat (first | apply Kd.R_alloc | apply Kd.R_drewN | apply Kd.R_drew)); exact Kd.R_mono HO191.out (fun _ hk => hk.2)⟩, ⟨by repeat (first | (with_reducible first | exact HB.out | apply below_alloc | apply pw_below_drewN | apply below_drew1) | exact HB.out)⟩⟩
                case round =>
                  clear H'
                  try clear c1
                  try clear c2
                  try clear p2
                  try clear c5
                  try clear c15
                  try clear c21
                  try clear c21b0
                  try clear c21b1
                  try clear c21b2
                  try clear c25
                  try clear c26
                  try clear c26b0
                  try clear c26b1
                  try clear c26b2
                  try clear p2
                  obtain ⟨x9_3, x54_3, rfl, rfl, HA, HK3, HO_10, HO_11, HB⟩ := hrel
                  cases gk with
                  | zero => exact absurd HA.out (by simp [bakelaw2_CrcSeals.l0])
                  | succ k3 =>
                    have H := HA.out
                    clear HA
                    simp only [bakelaw2_CrcSeals.l0] at H
                    by_cases c32 : x54_3 < (t186.length : Int)
                    · rw [if_pos c32] at H
                      have c32b0 : decide (x54_3 < (t186.length : Int)) = true := decide_eq_true c32
                      clear c32
                      have H' := Aside0.mk H
                      clear H
                      go_wp2
                      repeat (go_quiet (fail); try go_wp2)
                      go_loopg [9, 13] k3 (fun kq v9 v13 w' => ∃ (x9_4 : Int) (x13_4 : Int), v9 = .int .i64 x9_4 ∧ v13 = .int .i64 x13_4 ∧ Aside0 (bakelaw2_CrcSeals.l1 kq l0 l1 x9_4 t186 t189 x54_3 x13_4 (t186.length : Int) x54_3 = some r) ∧ Aside0 (kq ≤ k3) ∧ Aside0 (Kd.R Kd.bool 4 w' w.heap.size (fun k_ => some k_ ≠ (v190 : Value).ownBlock) (.slice Ao31 t186.length co31) t186) ∧ Aside0 (Kd.R Kd.bool 4 w' w.heap.size (fun k_ => some k_ ≠ ((.slice Ao31 t186.length co31) : Value).ownBlock) v190 t189) ∧ Aside0 (Below w.heap.size w w'))
                      case atStart => exact ⟨(x9_3), (x54_3), (by first | rfl | (simp; done) | (simp [*]; done)), (by first | rfl | (simp; done) | (simp [*]; done)), H', ⟨Nat.le_refl _⟩, ⟨by (with_reducible repeat (first | apply Kd.R_alloc | apply Kd.R_drewN | apply Kd.R_drew)); exact HO_10.out⟩, ⟨by (with_reducible repeat (first | apply Kd.R_alloc | apply Kd.R_drewN | apply Kd.R_drew)); exact HO_11.out⟩, ⟨by repeat (first | (with_reducible first | exact HB.out | apply below_alloc | apply pw_below_drewN | apply below_drew1) | exact HB.out)⟩⟩
                      case round =>
                        clear H'
                        try clear c1
                        try clear c2
                        try clear p2
                        try clear c3
                        try clear c5
                        try clear c15
                        try clear c21
                        try clear c21b0
                        try clear c21b1
                        try clear c21b2
                        try clear c25
                        try clear c26
                        try clear c26b0
                        try clear c26b1
                        try clear c26b2
                        try clear c32
                        try clear c32b0
                        try clear p2
                        obtain ⟨x9_4, x13_4, rfl, rfl, HA, HK4, HO_10, HO_11, HB⟩ := hrel
                        cases gk with
                        | zero => exact absurd HA.out (by simp [bakelaw2_CrcSeals.l1])
                        | succ k4 =>
                          have H := HA.out
                          clear HA
                          simp only [bakelaw2_CrcSeals.l1] at H
                          have HC33 := Aside0.mk H
                          clear H
                          go_upto_region 15 with (fail)
                          repeat (go_quiet (fail); go_upto_region 15 with (fail))
                          go_cut [65] (fun v65 wc => ∃ (kq : Nat) (x65_32 : Bool), v65 = .bool x65_32 ∧ Aside0 (bakelaw2_CrcSeals.j4 kq l0 l1 x9_4 t186 t189 x54_3 x13_4 (t186.length : Int) x54_3 x65_32 = some r) ∧ Aside0 (kq ≤ k4) ∧ Aside0 (Kd.R Kd.bool 4 wc w.heap.size (fun k_ => some k_ ≠ (v190 : Value).ownBlock) (.slice Ao31 t186.length co31) t186) ∧ Aside0 (Kd.R Kd.bool 4 wc w.heap.size (fun k_ => some k_ ≠ ((.slice Ao31 t186.length co31) : Value).ownBlock) v190 t189) ∧ Aside0 (Below w.heap.size w wc))
                          case first =>
                            have H := HC33.out
                            clear HC33
                            by_cases c34 : x13_4 < (t186.length : Int)
                            · rw [if_pos c34] at H
                              have c34b0 : decide (x13_4 < (t186.length : Int)) = true := decide_eq_true c34
                              clear c34
                              (first | rw [c34b0] | (simp only [i64_w, i32_w]; rw [c34b0]) | skip)
                              have H' := Aside0.mk H
                              clear H
                              go_wp2
                              repeat (go_quiet (fail); try go_wp2)
                              go_meet
                              case rel => exact ⟨_, ((x9_4 == 0)), (by first | rfl | (simp; done) | (simp [*]; done)), H', ⟨by have := HJ2.out; have := HJ17.out; have := HK3.out; have := HK4.out; first | omega | exact Nat.le_refl _⟩, ⟨by (with_reducible repeat (first | apply Kd.R_alloc | apply Kd.R_drewN | apply Kd.R_drew)); exact HO_10.out⟩, ⟨by (with_reducible repeat (first | apply Kd.R_alloc | apply Kd.R_drewN | apply Kd.R_drew)); exact HO_11.out⟩, ⟨by repeat (first | (with_reducible first | exact HB.out | apply below_alloc | apply pw_below_drewN | apply below_drew1) | exact HB.out)⟩⟩
                            · rw [if_neg c34] at H
                              have c34b0 : decide (x13_4 < (t186.length : Int)) = false := decide_eq_false c34
                              clear c34
                              (first | rw [c34b0] | (simp only [i64_w, i32_w]; rw [c34b0]) | skip)
                              have H' := Aside0.mk H
                              clear H
                              go_wp2
                              repeat (go_quiet (fail); try go_wp2)
                              go_meet
                              case rel => exact ⟨_, (false), (by first | rfl | (simp; done) | (simp [*]; done)), H', ⟨by have := HJ2.out; have := HJ17.out; have := HK3.out; have := HK4.out; first | omega | exact Nat.le_refl _⟩, ⟨by (with_reducible repeat (first | apply Kd.R_alloc | apply Kd.R_drewN | apply Kd.R_drew)); exact HO_10.out⟩, ⟨by (with_reducible repeat (first | apply Kd.R_alloc | apply Kd.R_drewN | apply Kd.R_drew)); exact HO_11.out⟩, ⟨by repeat (first | (with_reducible first | exact HB.out | apply below_alloc | apply pw_below_drewN | apply below_drew1) | exact HB.out)⟩⟩
                          case rest =>
                            clear HC33
                            try clear c1
                            try clear c2
                            try clear p2
                            try clear c3
                            try clear c5
                            try clear c15
                            try clear c21
                            try clear c21b0
                            try clear c21b1
                            try clear c21b2
                            try clear c25
                            try clear c26
                            try clear c26b0
                            try clear c26b1
                            try clear c26b2
                            try clear c32
                            try clear c32b0
                            try clear c34
                            try clear c34b0
                            try clear p2
                            obtain ⟨kq, x65_32, rfl, HA, HJ32, HO_10, HO_11, HB⟩ := hcut
                            cases kq with
                            | zero => exact absurd HA.out (by simp [bakelaw2_CrcSeals.j4])
                            | succ kj32 =>
                              have H := HA.out
                              clear HA
                              simp only [bakelaw2_CrcSeals.j4] at H
                              by_cases c35 : x65_32 = true
                              · subst c35
                                have H1 : (if 0 ≤ x54_3 then (if x54_3 < (t186.length : Int) then (if x54_3 < (t189.length : Int) then (if ((rdOf false t186 x54_3) != (rdOf false t189 x54_3)) = true then (if 0 ≤ (wrap64 (x13_4 + 1)) then (if (wrap64 (x13_4 + 1)) ≤ (t186.length : Int) then (if (wrap64 (x13_4 + 1)) ≤ (t189.length : Int) then ((slices_Equal_bool_bool.f kj32 (t186.drop ((wrap64 (x13_4 + 1)) : Int).toNat) (t189.drop ((wrap64 (x13_4 + 1)) : Int).toNat)).bind fun t203 => (if t203 = true then (bakelaw2_CrcSeals.l1 kj32 l0 l1 (wrap64 ((wrap64 (x13_4 - x54_3)) + 1)) t186 t189 x54_3 (wrap64 (x13_4 + 1)) (t186.length : Int) x54_3) else (bakelaw2_CrcSeals.l1 kj32 l0 l1 x9_4 t186 t189 x54_3 (wrap64 (x13_4 + 1)) (t186.length : Int) x54_3))) else (none)) else (none)) else (none)) else (bakelaw2_CrcSeals.l1 kj32 l0 l1 x9_4 t186 t189 x54_3 (wrap64 (x13_4 + 1)) (t186.length : Int) x54_3)) else (none)) else (none)) else (none)) = some r := by rw [if_pos rfl] at H; exact H
                                clear H
                                have H := H1
                                clear H1
                                by_cases c36 : 0 ≤ x54_3
                                · rw [if_pos c36] at H
                                  have c36b0 : decide (0 ≤ x54_3) = true := decide_eq_true c36
                                  clear c36
                                  by_cases c37 : x54_3 < (t186.length : Int)
                                  · rw [if_pos c37] at H
                                    have c37b0 : decide (x54_3 < (t186.length : Int)) = true := decide_eq_true c37
                                    clear c37
                                    by_cases c38 : x54_3 < (t189.length : Int)
                                    · rw [if_pos c38] at H
                                      have c38b0 : decide (x54_3 < (t189.length : Int)) = true := decide_eq_true c38
                                      clear c38
                                      by_cases c39 : ((rdOf false t186 x54_3) != (rdOf false t189 x54_3)) = true
                                      · rw [if_pos c39] at H
                                        have c39b0 : ((rdOf false t186 x54_3) != (rdOf false t189 x54_3)) = true := c39
                                        (try (have c39b1 : decide ((rdOf false t186 x54_3) = (rdOf false t189 x54_3)) = false := by simpa using c39))
                                        (try (have c39b2 : ((rdOf false t186 x54_3) == (rdOf false t189 x54_3)) = false := by simpa using c39))
                                        (try (have c39b3 : ¬ ((rdOf false t186 x54_3) = (rdOf false t189 x54_3)) := by simpa using c39))
                                        clear c39
                                        obtain ⟨ji40, hji40⟩ : ∃ j_ : Int, (wrap64 (x13_4 + 1)) = j_ := ⟨_, rfl⟩
                                        replace H : (if 0 ≤ (ji40) then (if (ji40) ≤ (t186.length : Int) then (if (ji40) ≤ (t189.length : Int) then ((slices_Equal_bool_bool.f kj32 (t186.drop ((ji40) : Int).toNat) (t189.drop ((ji40) : Int).toNat)).bind fun t203 => (if t203 = true then (bakelaw2_CrcSeals.l1 kj32 l0 l1 (wrap64 ((wrap64 (x13_4 - x54_3)) + 1)) t186 t189 x54_3 ji40 (t186.length : Int) x54_3) else (bakelaw2_CrcSeals.l1 kj32 l0 l1 x9_4 t186 t189 x54_3 ji40 (t186.length : Int) x54_3))) else (none)) else (none)) else (none)) = some r := by first | (rw [hji40] at H; exact H) | (simp only [hji40] at H ⊢; exact H)
                                        have hji40w : (IntKind.i64.wrap (x13_4 + 1)) = ji40 := (i64_w _).trans hji40
                                        by_cases c41 : 0 ≤ (ji40)
                                        · rw [if_pos c41] at H
                                          have c41b0 := eq_true c41
                                          have c41b1 : decide (0 ≤ (ji40)) = true := decide_eq_true c41
                                          clear c41
                                          by_cases c42 : (ji40) ≤ (t186.length : Int)
                                          · rw [if_pos c42] at H
                                            have c42b0 := eq_true c42
                                            have c42b1 : decide ((ji40) ≤ (t186.length : Int)) = true := decide_eq_true c42
                                            clear c42
                                            obtain ⟨y195, hy195⟩ : ∃ y_ : List Bool, y_ = (t186.drop ((ji40) : Int).toNat) := ⟨_, rfl⟩
                                            replace H : (if (ji40) ≤ (t189.length : Int) then ((slices_Equal_bool_bool.f kj32 y195 (t189.drop ((ji40) : Int).toNat)).bind fun t203 => (if t203 = true then (bakelaw2_CrcSeals.l1 kj32 l0 l1 (wrap64 ((wrap64 (x13_4 - x54_3)) + 1)) t186 t189 x54_3 ji40 (t186.length : Int) x54_3) else (bakelaw2_CrcSeals.l1 kj32 l0 l1 x9_4 t186 t189 x54_3 ji40 (t186.length : Int) x54_3))) else (none)) = some r := by first | (rw [hy195]; with_reducible exact H) | (have H2_ := (Option.bind_some _ _).symm.trans H; rw [hy195]; with_reducible exact H2_) | (have H2_ := (Option.bind_some _ _).symm.trans H; with_reducible exact H2_) | with_reducible exact H | (rw [hy195]; exact H) | exact H
                                            have Ny195 := Aside0.mk hy195
                                            clear hy195
                                            have c43b0 := eq_true (of_decide_eq_true (by first | (with_reducible assumption) | assumption) : 0 ≤ (ji40))
                                            by_cases c44 : (ji40) ≤ (t189.length : Int)
                                            · rw [if_pos c44] at H
                                              have c44b0 := eq_true c44
                                              have c44b1 : decide ((ji40) ≤ (t189.length : Int)) = true := decide_eq_true c44
                                              clear c44
                                              obtain ⟨y199, hy199⟩ : ∃ y_ : List Bool, y_ = (t189.drop ((ji40) : Int).toNat) := ⟨_, rfl⟩
                                              replace H : ((slices_Equal_bool_bool.f kj32 y195 y199).bind fun t203 => (if t203 = true then (bakelaw2_CrcSeals.l1 kj32 l0 l1 (wrap64 ((wrap64 (x13_4 - x54_3)) + 1)) t186 t189 x54_3 ji40 (t186.length : Int) x54_3) else (bakelaw2_CrcSeals.l1 kj32 l0 l1 x9_4 t186 t189 x54_3 ji40 (t186.length : Int) x54_3))) = some r := by first | (rw [hy199]; with_reducible exact H) | (have H2_ := (Option.bind_some _ _).symm.trans H; rw [hy199]; with_reducible exact H2_) | (have H2_ := (Option.bind_some _ _).symm.trans H; with_reducible exact H2_) | with_reducible exact H | (rw [hy199]; exact H) | exact H
                                              have Ny199 := Aside0.mk hy199
                                              clear hy199
                                              replace H := Option.bind_eq_some_iff.mp H
                                              obtain ⟨t203, A450, H⟩ := H
                                              replace H : (if t203 = true then (bakelaw2_CrcSeals.l1 kj32 l0 l1 (wrap64 ((wrap64 (x13_4 - x54_3)) + 1)) t186 t189 x54_3 ji40 (t186.length : Int) x54_3) else (bakelaw2_CrcSeals.l1 kj32 l0 l1 x9_4 t186 t189 x54_3 ji40 (t186.length : Int) x54_3)) = some r := H
                                              have A45 := Aside0.mk A450
                                              clear A450
                                              by_cases c46 : t203 = true
                                              · subst c46
                                                have H1 : (bakelaw2_CrcSeals.l1 kj32 l0 l1 (wrap64 ((wrap64 (x13_4 - x54_3)) + 1)) t186 t189 x54_3 ji40 (t186.length : Int) x54_3) = some r := by rw [if_pos rfl] at H; exact H
                                                clear H
                                                have H := H1
                                                clear H1
                                                have H' := Aside0.mk H
                                                clear H
                                                have p193 : 0 ≤ (x54_3 : Int) := of_decide_eq_true (by first | (with_reducible assumption) | assumption)
                                                have q193 : x54_3 < (t186.length : Int) := of_decide_eq_true (by first | (with_reducible assumption) | assumption)
                                                obtain ⟨ad193, e193, hx193_0⟩ := Kd.at_bool (Kd.R_reads' HO_10.out).2.2 x54_3 p193 q193
                                                cases e193
                                                replace p193 := eq_true p193
                                                replace q193 := eq_true q193
                                                obtain ⟨Ao47, co47, eo47⟩ := Kd.R_slice HO_11.out
                                                subst eo47
                                                have p194 : 0 ≤ (x54_3 : Int) := of_decide_eq_true (by first | (with_reducible assumption) | assumption)
                                                have q194 : x54_3 < (t189.length : Int) := of_decide_eq_true (by first | (with_reducible assumption) | assumption)
                                                obtain ⟨ad194, e194, hx194_0⟩ := Kd.at_bool (Kd.R_reads' HO_11.out).2.2 x54_3 p194 q194
                                                cases e194
                                                replace p194 := eq_true p194
                                                replace q194 := eq_true q194
                                                have q48 : ((ji40) : Int) ≤ ((t186.length : Int) : Int) := of_decide_eq_true (by first | (with_reducible assumption) | assumption)
                                                obtain ⟨i048, hi048, _, hsz48, _⟩ := info_parts info4
                                                have hroom48 : t186.length ≤ co31 := (Kd.R_reads' HO_10.out).2.1
                                                have hC48 : Kd.C Kd.bool _ (some ad193) t186.length t186 := (Kd.R_reads' HO_10.out).2.2
                                                have q048 : (0 : Int) ≤ ((ji40) : Int) := of_decide_eq_true (by first | (with_reducible assumption) | assumption)
                                                have hcut48 := cut_from (P := Try.prog) 39 4 .i64 Try.underlying39 hi048 1 hsz48 (some ad193) t186.length co31 (ji40) q048 q48
                                                have hr48 := Kd.C_drop (m := ((ji40) : Int).toNat) (c := co31) hC48 (by omega) hroom48
                                                obtain ⟨A48, hA48⟩ : ∃ A1, A1 = (if co31 = ((ji40) : Int).toNat then (some ad193) else ((some ad193) : Option Addr).map (·.add (((ji40) : Int).toNat * 1))) := ⟨_, rfl⟩
                                                obtain ⟨c48, hc48⟩ : ∃ c1, c1 = co31 - ((ji40) : Int).toNat := ⟨_, rfl⟩
                                                have hy48 : y195.length = t186.length - ((ji40) : Int).toNat := (by rw [Ny195.out, List.length_drop] <;> omega)
                                                rw [show (t186).drop ((ji40) : Int).toNat = y195 from Ny195.out.symm] at hr48
                                                replace hr48 : Kd.C Kd.bool _ A48 y195.length y195 := (by rw [hA48]; exact hr48)
                                                rw [← hy48, ← hA48, ← hc48] at hcut48
                                                have HR198 := Aside0.mk hr48
                                                have HC198 := Aside0.mk (show y195.length ≤ c48 from by rw [hy48, hc48]; exact Nat.sub_le_sub_right hroom48 _)
                                                clear hr48 hC48 hroom48 hi048 hsz48 hc48
                                                have KY48 := Aside0.mk hy48
                                                have KA48 := Aside0.mk hA48
                                                clear hy48 hA48
                                                have KL48 := Aside0.mk (show ((ji40) : Int).toNat ≤ t186.length from by omega)
                                                replace q48 := eq_true q48
                                                have q49 : ((ji40) : Int) ≤ ((t189.length : Int) : Int) := of_decide_eq_true (by first | (with_reducible assumption) | assumption)
                                                obtain ⟨i049, hi049, _, hsz49, _⟩ := info_parts info4
                                                have hroom49 : t189.length ≤ co47 := (Kd.R_reads' HO_11.out).2.1
                                                have hC49 : Kd.C Kd.bool _ (some ad194) t189.length t189 := (Kd.R_reads' HO_11.out).2.2
                                                have q049 : (0 : Int) ≤ ((ji40) : Int) := of_decide_eq_true (by first | (with_reducible assumption) | assumption)
                                                have hcut49 := cut_from (P := Try.prog) 39 4 .i64 Try.underlying39 hi049 1 hsz49 (some ad194) t189.length co47 (ji40) q049 q49
                                                have hr49 := Kd.C_drop (m := ((ji40) : Int).toNat) (c := co47) hC49 (by omega) hroom49
                                                obtain ⟨A49, hA49⟩ : ∃ A1, A1 = (if co47 = ((ji40) : Int).toNat then (some ad194) else ((some ad194) : Option Addr).map (·.add (((ji40) : Int).toNat * 1))) := ⟨_, rfl⟩
                                                obtain ⟨c49, hc49⟩ : ∃ c1, c1 = co47 - ((ji40) : Int).toNat := ⟨_, rfl⟩
                                                have hy49 : y199.length = t189.length - ((ji40) : Int).toNat := (by rw [Ny199.out, List.length_drop] <;> omega)
                                                rw [show (t189).drop ((ji40) : Int).toNat = y199 from Ny199.out.symm] at hr49
                                                replace hr49 : Kd.C Kd.bool _ A49 y199.length y199 := (by rw [hA49]; exact hr49)
                                                rw [← hy49, ← hA49, ← hc49] at hcut49
                                                have HR202 := Aside0.mk hr49
                                                have HC202 := Aside0.mk (show y199.length ≤ c49 from by rw [hy49, hc49]; exact Nat.sub_le_sub_right hroom49 _)
                                                clear hr49 hC49 hroom49 hi049 hsz49 hc49
                                                have KY49 := Aside0.mk hy49
                                                have KA49 := Aside0.mk hA49
                                                clear hy49 hA49
                                                have KL49 := Aside0.mk (show ((ji40) : Int).toNat ≤ t189.length from by omega)
                                                replace q49 := eq_true q49
                                                go_wp2_with (first | (go_at_call 28; (with_reducible refine (slices_Equal_bool_bool.calls kj32 _ _ y195 _ _ y199 true _ ?side1 ?side2 ?side3 ?side4 A45.out).mono ?_); (case side1 => repeat (first | exact (by repeat (first | (with_reducible exact HR198.out) | (with_reducible refine Kd.C_alloc ?_ _) | (with_reducible refine Kd.C_drewN ?_ _) | (with_reducible refine Kd.C_drew ?_) | exact HR198.out)) | (with_reducible refine Kd.C_alloc ?_ _) | (with_reducible refine Kd.C_drewN ?_ _) | (with_reducible refine Kd.C_drew ?_))); (case side2 => exact HC198.out); (case side3 => repeat (first | exact (by repeat (first | (with_reducible exact HR202.out) | (with_reducible refine Kd.C_alloc ?_ _) | (with_reducible refine Kd.C_drewN ?_ _) | (with_reducible refine Kd.C_drew ?_) | exact HR202.out)) | (with_reducible refine Kd.C_alloc ?_ _) | (with_reducible refine Kd.C_drewN ?_ _) | (with_reducible refine Kd.C_drew ?_))); (case side4 => exact HC202.out); rintro e w' ⟨rfl, ⟨nd, rfl⟩⟩; (try first | exact ⟨rfl, _, World.drewN_drewN _ _ _⟩ | exact ⟨rfl, _, Eq.trans (World.drewN_drewN _ _ _) (congrArg (World.drewN _) (Nat.add_assoc _ _ _))⟩)))
                                                repeat (go_quiet (first | (go_at_call 28; (with_reducible refine (slices_Equal_bool_bool.calls kj32 _ _ y195 _ _ y199 true _ ?side1 ?side2 ?side3 ?side4 A45.out).mono ?_); (case side1 => repeat (first | exact (by repeat (first | (with_reducible exact HR198.out) | (with_reducible refine Kd.C_alloc ?_ _) | (with_reducible refine Kd.C_drewN ?_ _) | (with_reducible refine Kd.C_drew ?_) | exact HR198.out)) | (with_reducible refine Kd.C_alloc ?_ _) | (with_reducible refine Kd.C_drewN ?_ _) | (with_reducible refine Kd.C_drew ?_))); (case side2 => exact HC198.out); (case side3 => repeat (first | exact (by repeat (first | (with_reducible exact HR202.out) | (with_reducible refine Kd.C_alloc ?_ _) | (with_reducible refine Kd.C_drewN ?_ _) | (with_reducible refine Kd.C_drew ?_) | exact HR202.out)) | (with_reducible refine Kd.C_alloc ?_ _) | (with_reducible refine Kd.C_drewN ?_ _) | (with_reducible refine Kd.C_drew ?_))); (case side4 => exact HC202.out); rintro e w' ⟨rfl, ⟨nd, rfl⟩⟩; (try first | exact ⟨rfl, _, World.drewN_drewN _ _ _⟩ | exact ⟨rfl, _, Eq.trans (World.drewN_drewN _ _ _) (congrArg (World.drewN _) (Nat.add_assoc _ _ _))⟩))); try go_wp2_with (first | (go_at_call 28; (with_reducible refine (slices_Equal_bool_bool.calls kj32 _ _ y195 _ _ y199 true _ ?side1 ?side2 ?side3 ?side4 A45.out).mono ?_); (case side1 => repeat (first | exact (by repeat (first | (with_reducible exact HR198.out) | (with_reducible refine Kd.C_alloc ?_ _) | (with_reducible refine Kd.C_drewN ?_ _) | (with_reducible refine Kd.C_drew ?_) | exact HR198.out)) | (with_reducible refine Kd.C_alloc ?_ _) | (with_reducible refine Kd.C_drewN ?_ _) | (with_reducible refine Kd.C_drew ?_))); (case side2 => exact HC198.out); (case side3 => repeat (first | exact (by repeat (first | (with_reducible exact HR202.out) | (with_reducible refine Kd.C_alloc ?_ _) | (with_reducible refine Kd.C_drewN ?_ _) | (with_reducible refine Kd.C_drew ?_) | exact HR202.out)) | (with_reducible refine Kd.C_alloc ?_ _) | (with_reducible refine Kd.C_drewN ?_ _) | (with_reducible refine Kd.C_drew ?_))); (case side4 => exact HC202.out); rintro e w' ⟨rfl, ⟨nd, rfl⟩⟩; (try first | exact ⟨rfl, _, World.drewN_drewN _ _ _⟩ | exact ⟨rfl, _, Eq.trans (World.drewN_drewN _ _ _) (congrArg (World.drewN _) (Nat.add_assoc _ _ _))⟩))))
                                                go_roundg kj32
                                                case measure => have := HJ2.out; have := HJ17.out; have := HK3.out; have := HK4.out; have := HJ32.out; omega
                                                case rel => exact ⟨(wrap64 ((wrap64 (x13_4 - x54_3)) + 1)), (ji40), (by first | rfl | (simp; done) | (simp [*]; done)), (by first | rfl | (simp; done) | (simp only [← hji40] <;> (first | rfl | simp)) | (simp [*]; done)), H', ⟨by have := HJ2.out; have := HJ17.out; have := HK3.out; have := HK4.out; have := HJ32.out; omega⟩, ⟨by (with_reducible repeat (first | apply Kd.R_alloc | apply Kd.R_drewN | apply Kd.R_drew)); exact HO_10.out⟩, ⟨by (with_reducible repeat (first | apply Kd.R_alloc | apply Kd.R_drewN | apply Kd.R_drew)); exact HO_11.out⟩, ⟨by repeat (first | (with_reducible first | exact HB.out | apply below_alloc | apply pw_below_drewN | apply below_drew1) | exact HB.out)⟩⟩
                                              · replace c46 := Bool.eq_false_iff.mpr c46
                                                subst c46
                                                have H1 : (bakelaw2_CrcSeals.l1 kj32 l0 l1 x9_4 t186 t189 x54_3 ji40 (t186.length : Int) x54_3) = some r := by rw [if_neg (show ¬ (false = true) by decide)] at H; exact H
                                                clear H
                                                have H := H1
                                                clear H1
                                                have H' := Aside0.mk H
                                                clear H
                                                have p193 : 0 ≤ (x54_3 : Int) := of_decide_eq_true (by first | (with_reducible assumption) | assumption)
                                                have q193 : x54_3 < (t186.length : Int) := of_decide_eq_true (by first | (with_reducible assumption) | assumption)
                                                obtain ⟨ad193, e193, hx193_0⟩ := Kd.at_bool (Kd.R_reads' HO_10.out).2.2 x54_3 p193 q193
                                                cases e193
                                                replace p193 := eq_true p193
                                                replace q193 := eq_true q193
                                                obtain ⟨Ao50, co50, eo50⟩ := Kd.R_slice HO_11.out
                                                subst eo50
                                                have p194 : 0 ≤ (x54_3 : Int) := of_decide_eq_true (by first | (with_reducible assumption) | assumption)
                                                have q194 : x54_3 < (t189.length : Int) := of_decide_eq_true (by first | (with_reducible assumption) | assumption)
                                                obtain ⟨ad194, e194, hx194_0⟩ := Kd.at_bool (Kd.R_reads' HO_11.out).2.2 x54_3 p194 q194
                                                cases e194
                                                replace p194 := eq_true p194
                                                replace q194 := eq_true q194
                                                have q51 : ((ji40) : Int) ≤ ((t186.length : Int) : Int) := of_decide_eq_true (by first | (with_reducible assumption) | assumption)
                                                obtain ⟨i051, hi051, _, hsz51, _⟩ := info_parts info4
                                                have hroom51 : t186.length ≤ co31 := (Kd.R_reads' HO_10.out).2.1
                                                have hC51 : Kd.C Kd.bool _ (some ad193) t186.length t186 := (Kd.R_reads' HO_10.out).2.2
                                                have q051 : (0 : Int) ≤ ((ji40) : Int) := of_decide_eq_true (by first | (with_reducible assumption) | assumption)
                                                have hcut51 := cut_from (P := Try.prog) 39 4 .i64 Try.underlying39 hi051 1 hsz51 (some ad193) t186.length co31 (ji40) q051 q51
                                                have hr51 := Kd.C_drop (m := ((ji40) : Int).toNat) (c := co31) hC51 (by omega) hroom51
                                                obtain ⟨A51, hA51⟩ : ∃ A1, A1 = (if co31 = ((ji40) : Int).toNat then (some ad193) else ((some ad193) : Option Addr).map (·.add (((ji40) : Int).toNat * 1))) := ⟨_, rfl⟩
                                                obtain ⟨c51, hc51⟩ : ∃ c1, c1 = co31 - ((ji40) : Int).toNat := ⟨_, rfl⟩
                                                have hy51 : y195.length = t186.length - ((ji40) : Int).toNat := (by rw [Ny195.out, List.length_drop] <;> omega)
                                                rw [show (t186).drop ((ji40) : Int).toNat = y195 from Ny195.out.symm] at hr51
                                                replace hr51 : Kd.C Kd.bool _ A51 y195.length y195 := (by rw [hA51]; exact hr51)
                                                rw [← hy51, ← hA51, ← hc51] at hcut51
                                                have HR198 := Aside0.mk hr51
                                                have HC198 := Aside0.mk (show y195.length ≤ c51 from by rw [hy51, hc51]; exact Nat.sub_le_sub_right hroom51 _)
                                                clear hr51 hC51 hroom51 hi051 hsz51 hc51
                                                have KY51 := Aside0.mk hy51
                                                have KA51 := Aside0.mk hA51
                                                clear hy51 hA51
                                                have KL51 := Aside0.mk (show ((ji40) : Int).toNat ≤ t186.length from by omega)
                                                replace q51 := eq_true q51
                                                have q52 : ((ji40) : Int) ≤ ((t189.length : Int) : Int) := of_decide_eq_true (by first | (with_reducible assumption) | assumption)
                                                obtain ⟨i052, hi052, _, hsz52, _⟩ := info_parts info4
                                                have hroom52 : t189.length ≤ co50 := (Kd.R_reads' HO_11.out).2.1
                                                have hC52 : Kd.C Kd.bool _ (some ad194) t189.length t189 := (Kd.R_reads' HO_11.out).2.2
                                                have q052 : (0 : Int) ≤ ((ji40) : Int) := of_decide_eq_true (by first | (with_reducible assumption) | assumption)
                                                have hcut52 := cut_from (P := Try.prog) 39 4 .i64 Try.underlying39 hi052 1 hsz52 (some ad194) t189.length co50 (ji40) q052 q52
                                                have hr52 := Kd.C_drop (m := ((ji40) : Int).toNat) (c := co50) hC52 (by omega) hroom52
                                                obtain ⟨A52, hA52⟩ : ∃ A1, A1 = (if co50 = ((ji40) : Int).toNat then (some ad194) else ((some ad194) : Option Addr).map (·.add (((ji40) : Int).toNat * 1))) := ⟨_, rfl⟩
                                                obtain ⟨c52, hc52⟩ : ∃ c1, c1 = co50 - ((ji40) : Int).toNat := ⟨_, rfl⟩
                                                have hy52 : y199.length = t189.length - ((ji40) : Int).toNat := (by rw [Ny199.out, List.length_drop] <;> omega)
                                                rw [show (t189).drop ((ji40) : Int).toNat = y199 from Ny199.out.symm] at hr52
                                                replace hr52 : Kd.C Kd.bool _ A52 y199.length y199 := (by rw [hA52]; exact hr52)
                                                rw [← hy52, ← hA52, ← hc52] at hcut52
                                                have HR202 := Aside0.mk hr52
                                                have HC202 := Aside0.mk (show y199.length ≤ c52 from by rw [hy52, hc52]; exact Nat.sub_le_sub_right hroom52 _)
                                                clear hr52 hC52 hroom52 hi052 hsz52 hc52
                                                have KY52 := Aside0.mk hy52
                                                have KA52 := Aside0.mk hA52
                                                clear hy52 hA52
                                                have KL52 := Aside0.mk (show ((ji40) : Int).toNat ≤ t189.length from by omega)
                                                replace q52 := eq_true q52
                                                go_wp2_with (first | (go_at_call 28; (with_reducible refine (slices_Equal_bool_bool.calls kj32 _ _ y195 _ _ y199 false _ ?side1 ?side2 ?side3 ?side4 A45.out).mono ?_); (case side1 => repeat (first | exact (by repeat (first | (with_reducible exact HR198.out) | (with_reducible refine Kd.C_alloc ?_ _) | (with_reducible refine Kd.C_drewN ?_ _) | (with_reducible refine Kd.C_drew ?_) | exact HR198.out)) | (with_reducible refine Kd.C_alloc ?_ _) | (with_reducible refine Kd.C_drewN ?_ _) | (with_reducible refine Kd.C_drew ?_))); (case side2 => exact HC198.out); (case side3 => repeat (first | exact (by repeat (first | (with_reducible exact HR202.out) | (with_reducible refine Kd.C_alloc ?_ _) | (with_reducible refine Kd.C_drewN ?_ _) | (with_reducible refine Kd.C_drew ?_) | exact HR202.out)) | (with_reducible refine Kd.C_alloc ?_ _) | (with_reducible refine Kd.C_drewN ?_ _) | (with_reducible refine Kd.C_drew ?_))); (case side4 => exact HC202.out); rintro e w' ⟨rfl, ⟨nd, rfl⟩⟩; (try first | exact ⟨rfl, _, World.drewN_drewN _ _ _⟩ | exact ⟨rfl, _, Eq.trans (World.drewN_drewN _ _ _) (congrArg (World.drewN _) (Nat.add_assoc _ _ _))⟩)))
                                                repeat (go_quiet (first | (go_at_call 28; (with_reducible refine (slices_Equal_bool_bool.calls kj32 _ _ y195 _ _ y199 false _ ?side1 ?side2 ?side3 ?side4 A45.out).mono ?_); (case side1 => repeat (first | exact (by repeat (first | (with_reducible exact HR198.out) | (with_reducible refine Kd.C_alloc ?_ _) | (with_reducible refine Kd.C_drewN ?_ _) | (with_reducible refine Kd.C_drew ?_) | exact HR198.out)) | (with_reducible refine Kd.C_alloc ?_ _) | (with_reducible refine Kd.C_drewN ?_ _) | (with_reducible refine Kd.C_drew ?_))); (case side2 => exact HC198.out); (case side3 => repeat (first | exact (by repeat (first | (with_reducible exact HR202.out) | (with_reducible refine Kd.C_alloc ?_ _) | (with_reducible refine Kd.C_drewN ?_ _) | (with_reducible refine Kd.C_drew ?_) | exact HR202.out)) | (with_reducible refine Kd.C_alloc ?_ _) | (with_reducible refine Kd.C_drewN ?_ _) | (with_reducible refine Kd.C_drew ?_))); (case side4 => exact HC202.out); rintro e w' ⟨rfl, ⟨nd, rfl⟩⟩; (try first | exact ⟨rfl, _, World.drewN_drewN _ _ _⟩ | exact ⟨rfl, _, Eq.trans (World.drewN_drewN _ _ _) (congrArg (World.drewN _) (Nat.add_assoc _ _ _))⟩))); try go_wp2_with (first | (go_at_call 28; (with_reducible refine (slices_Equal_bool_bool.calls kj32 _ _ y195 _ _ y199 false _ ?side1 ?side2 ?side3 ?side4 A45.out).mono ?_); (case side1 => repeat (first | exact (by repeat (first | (with_reducible exact HR198.out) | (with_reducible refine Kd.C_alloc ?_ _) | (with_reducible refine Kd.C_drewN ?_ _) | (with_reducible refine Kd.C_drew ?_) | exact HR198.out)) | (with_reducible refine Kd.C_alloc ?_ _) | (with_reducible refine Kd.C_drewN ?_ _) | (with_reducible refine Kd.C_drew ?_))); (case side2 => exact HC198.out); (case side3 => repeat (first | exact (by repeat (first | (with_reducible exact HR202.out) | (with_reducible refine Kd.C_alloc ?_ _) | (with_reducible refine Kd.C_drewN ?_ _) | (with_reducible refine Kd.C_drew ?_) | exact HR202.out)) | (with_reducible refine Kd.C_alloc ?_ _) | (with_reducible refine Kd.C_drewN ?_ _) | (with_reducible refine Kd.C_drew ?_))); (case side4 => exact HC202.out); rintro e w' ⟨rfl, ⟨nd, rfl⟩⟩; (try first | exact ⟨rfl, _, World.drewN_drewN _ _ _⟩ | exact ⟨rfl, _, Eq.trans (World.drewN_drewN _ _ _) (congrArg (World.drewN _) (Nat.add_assoc _ _ _))⟩))))
                                                go_roundg kj32
                                                case measure => have := HJ2.out; have := HJ17.out; have := HK3.out; have := HK4.out; have := HJ32.out; omega
                                                case rel => exact ⟨(x9_4), (ji40), (by first | rfl | (simp; done) | (simp [*]; done)), (by first | rfl | (simp; done) | (simp only [← hji40] <;> (first | rfl | simp)) | (simp [*]; done)), H', ⟨by have := HJ2.out; have := HJ17.out; have := HK3.out; have := HK4.out; have := HJ32.out; omega⟩, ⟨by (with_reducible repeat (first | apply Kd.R_alloc | apply Kd.R_drewN | apply Kd.R_drew)); exact HO_10.out⟩, ⟨by (with_reducible repeat (first | apply Kd.R_alloc | apply Kd.R_drewN | apply Kd.R_drew)); exact HO_11.out⟩, ⟨by repeat (first | (with_reducible first | exact HB.out | apply below_alloc | apply pw_below_drewN | apply below_drew1) | exact HB.out)⟩⟩
                                            · rw [if_neg c44] at H
                                              exact absurd H (by simp)
                                          · rw [if_neg c42] at H
                                            exact absurd H (by simp)
                                        · rw [if_neg c41] at H
                                          exact absurd H (by simp)
                                      · rw [if_neg c39] at H
                                        have c39b0 : ((rdOf false t186 x54_3) != (rdOf false t189 x54_3)) = false := by simpa using c39
                                        (try (have c39b1 : decide ((rdOf false t186 x54_3) = (rdOf false t189 x54_3)) = true := by simpa using c39))
                                        (try (have c39b2 : ((rdOf false t186 x54_3) == (rdOf false t189 x54_3)) = true := by simpa using c39))
                                        clear c39
                                        have H' := Aside0.mk H
                                        clear H
                                        have p193 : 0 ≤ (x54_3 : Int) := of_decide_eq_true (by first | (with_reducible assumption) | assumption)
                                        have q193 : x54_3 < (t186.length : Int) := of_decide_eq_true (by first | (with_reducible assumption) | assumption)
                                        obtain ⟨ad193, e193, hx193_0⟩ := Kd.at_bool (Kd.R_reads' HO_10.out).2.2 x54_3 p193 q193
                                        cases e193
                                        replace p193 := eq_true p193
                                        replace q193 := eq_true q193
                                        obtain ⟨Ao53, co53, eo53⟩ := Kd.R_slice HO_11.out
                                        subst eo53
                                        have p194 : 0 ≤ (x54_3 : Int) := of_decide_eq_true (by first | (with_reducible assumption) | assumption)
                                        have q194 : x54_3 < (t189.length : Int) := of_decide_eq_true (by first | (with_reducible assumption) | assumption)
                                        obtain ⟨ad194, e194, hx194_0⟩ := Kd.at_bool (Kd.R_reads' HO_11.out).2.2 x54_3 p194 q194
                                        cases e194
                                        replace p194 := eq_true p194
                                        replace q194 := eq_true q194
                                        go_wp2
                                        repeat (go_quiet (fail); try go_wp2)
                                        go_roundg kj32
                                        case measure => have := HJ2.out; have := HJ17.out; have := HK3.out; have := HK4.out; have := HJ32.out; omega
                                        case rel => exact ⟨(x9_4), (wrap64 (x13_4 + 1)), (by first | rfl | (simp; done) | (simp [*]; done)), (by first | rfl | (simp; done) | (simp [*]; done)), H', ⟨by have := HJ2.out; have := HJ17.out; have := HK3.out; have := HK4.out; have := HJ32.out; omega⟩, ⟨by (with_reducible repeat (first | apply Kd.R_alloc | apply Kd.R_drewN | apply Kd.R_drew)); exact HO_10.out⟩, ⟨by (with_reducible repeat (first | apply Kd.R_alloc | apply Kd.R_drewN | apply Kd.R_drew)); exact HO_11.out⟩, ⟨by repeat (first | (with_reducible first | exact HB.out | apply below_alloc | apply pw_below_drewN | apply below_drew1) | exact HB.out)⟩⟩
                                    · rw [if_neg c38] at H
                                      exact absurd H (by simp)
                                  · rw [if_neg c37] at H
                                    exact absurd H (by simp)
                                · rw [if_neg c36] at H
                                  exact absurd H (by simp)
                              · replace c35 := Bool.eq_false_iff.mpr c35
                                subst c35
                                have H1 : (bakelaw2_CrcSeals.l0 kj32 l0 l1 x9_4 t186 t189 (t186.length : Int) (wrap64 (x54_3 + 1))) = some r := by rw [if_neg (show ¬ (false = true) by decide)] at H; exact H
                                clear H
                                have H := H1
                                clear H1
                                have H' := Aside0.mk H
                                clear H
                                go_wp2
                                repeat (go_quiet (fail); try go_wp2)
                                go_roundg kj32
                                case measure => have := HJ2.out; have := HJ17.out; have := HK3.out; have := HK4.out; have := HJ32.out; omega
                                case rel => exact ⟨(x9_4), (wrap64 (x54_3 + 1)), (by first | rfl | (simp; done) | (simp [*]; done)), (by first | rfl | (simp; done) | (simp [*]; done)), H', ⟨by have := HJ2.out; have := HJ17.out; have := HK3.out; have := HK4.out; have := HJ32.out; omega⟩, ⟨by (with_reducible repeat (first | apply Kd.R_alloc | apply Kd.R_drewN | apply Kd.R_drew)); exact HO_10.out⟩, ⟨by (with_reducible repeat (first | apply Kd.R_alloc | apply Kd.R_drewN | apply Kd.R_drew)); exact HO_11.out⟩, ⟨by repeat (first | (with_reducible first | exact HB.out | apply below_alloc | apply pw_below_drewN | apply below_drew1) | exact HB.out)⟩⟩
                    · rw [if_neg c32] at H
                      have c32b0 : decide (x54_3 < (t186.length : Int)) = false := decide_eq_false c32
                      clear c32
                      replace H := Option.bind_eq_some_iff.mp H
                      obtain ⟨t192, A540, H⟩ := H
                      replace H : (some (t192 == x9_3)) = some r := H
                      have A54 := Aside0.mk A540
                      clear A540
                      obtain rfl := Option.some.inj H
                      go_wp2_with (first | (go_at_call 29; (with_reducible refine (crc_Burst.calls k3 _ _ l0 _ _ l1 t192 _ ?side1 ?side2 ?side3 ?side4 A54.out).mono ?_); (case side1 => repeat (first | exact (Kd.C_below HR0.out HB.out) | (with_reducible refine Kd.C_alloc ?_ _) | (with_reducible refine Kd.C_drewN ?_ _) | (with_reducible refine Kd.C_drew ?_))); (case side2 => exact HC0.out); (case side3 => repeat (first | exact (Kd.C_below HR1.out HB.out) | (with_reducible refine Kd.C_alloc ?_ _) | (with_reducible refine Kd.C_drewN ?_ _) | (with_reducible refine Kd.C_drew ?_))); (case side4 => exact HC1.out); rintro e w' ⟨rfl, ⟨nd, rfl⟩⟩; (try first | exact ⟨rfl, _, World.drewN_drewN _ _ _⟩ | exact ⟨rfl, _, Eq.trans (World.drewN_drewN _ _ _) (congrArg (World.drewN _) (Nat.add_assoc _ _ _))⟩)))
                      repeat (go_quiet (first | (go_at_call 29; (with_reducible refine (crc_Burst.calls k3 _ _ l0 _ _ l1 t192 _ ?side1 ?side2 ?side3 ?side4 A54.out).mono ?_); (case side1 => repeat (first | exact (Kd.C_below HR0.out HB.out) | (with_reducible refine Kd.C_alloc ?_ _) | (with_reducible refine Kd.C_drewN ?_ _) | (with_reducible refine Kd.C_drew ?_))); (case side2 => exact HC0.out); (case side3 => repeat (first | exact (Kd.C_below HR1.out HB.out) | (with_reducible refine Kd.C_alloc ?_ _) | (with_reducible refine Kd.C_drewN ?_ _) | (with_reducible refine Kd.C_drew ?_))); (case side4 => exact HC1.out); rintro e w' ⟨rfl, ⟨nd, rfl⟩⟩; (try first | exact ⟨rfl, _, World.drewN_drewN _ _ _⟩ | exact ⟨rfl, _, Eq.trans (World.drewN_drewN _ _ _) (congrArg (World.drewN _) (Nat.add_assoc _ _ _))⟩))); try go_wp2_with (first | (go_at_call 29; (with_reducible refine (crc_Burst.calls k3 _ _ l0 _ _ l1 t192 _ ?side1 ?side2 ?side3 ?side4 A54.out).mono ?_); (case side1 => repeat (first | exact (Kd.C_below HR0.out HB.out) | (with_reducible refine Kd.C_alloc ?_ _) | (with_reducible refine Kd.C_drewN ?_ _) | (with_reducible refine Kd.C_drew ?_))); (case side2 => exact HC0.out); (case side3 => repeat (first | exact (Kd.C_below HR1.out HB.out) | (with_reducible refine Kd.C_alloc ?_ _) | (with_reducible refine Kd.C_drewN ?_ _) | (with_reducible refine Kd.C_drew ?_))); (case side4 => exact HC1.out); rintro e w' ⟨rfl, ⟨nd, rfl⟩⟩; (try first | exact ⟨rfl, _, World.drewN_drewN _ _ _⟩ | exact ⟨rfl, _, Eq.trans (World.drewN_drewN _ _ _) (congrArg (World.drewN _) (Nat.add_assoc _ _ _))⟩))))
                      go_ret
                      exact ⟨by first | rfl | (simp [errW_none, errW_some] <;> rfl) | (simp [*, errW_none, errW_some] <;> rfl), by repeat (first | (with_reducible first | exact HB.out | apply below_alloc | apply pw_below_drewN | apply below_drew1) | exact HB.out)⟩
              · rw [if_neg c26] at H
                have c26b0 : ((l0.length : Int) == (l1.length : Int)) = false := beq_eq_false_iff_ne.mpr c26
                have c26b1 : ((l0.length : Int) != (l1.length : Int)) = true := bne_iff_ne.mpr c26
                have c26b2 : (l0.length == l1.length) = false := by first | simpa using c26 | (simp at c26 ⊢; omega)
                replace H := Option.bind_eq_some_iff.mp H
                obtain ⟨t204, A550, H⟩ := H
                replace H : (some (t204 == (-1))) = some r := H
                have A55 := Aside0.mk A550
                clear A550
                obtain rfl := Option.some.inj H
                go_wp2_with (first | (go_at_call 29; (with_reducible refine (crc_Burst.calls kj17 _ _ l0 _ _ l1 t204 _ ?side1 ?side2 ?side3 ?side4 A55.out).mono ?_); (case side1 => repeat (first | exact (Kd.C_below HR0.out HB.out) | (with_reducible refine Kd.C_alloc ?_ _) | (with_reducible refine Kd.C_drewN ?_ _) | (with_reducible refine Kd.C_drew ?_))); (case side2 => exact HC0.out); (case side3 => repeat (first | exact (Kd.C_below HR1.out HB.out) | (with_reducible refine Kd.C_alloc ?_ _) | (with_reducible refine Kd.C_drewN ?_ _) | (with_reducible refine Kd.C_drew ?_))); (case side4 => exact HC1.out); rintro e w' ⟨rfl, ⟨nd, rfl⟩⟩; (try first | exact ⟨rfl, _, World.drewN_drewN _ _ _⟩ | exact ⟨rfl, _, Eq.trans (World.drewN_drewN _ _ _) (congrArg (World.drewN _) (Nat.add_assoc _ _ _))⟩)))
                repeat (go_quiet (first | (go_at_call 29; (with_reducible refine (crc_Burst.calls kj17 _ _ l0 _ _ l1 t204 _ ?side1 ?side2 ?side3 ?side4 A55.out).mono ?_); (case side1 => repeat (first | exact (Kd.C_below HR0.out HB.out) | (with_reducible refine Kd.C_alloc ?_ _) | (with_reducible refine Kd.C_drewN ?_ _) | (with_reducible refine Kd.C_drew ?_))); (case side2 => exact HC0.out); (case side3 => repeat (first | exact (Kd.C_below HR1.out HB.out) | (with_reducible refine Kd.C_alloc ?_ _) | (with_reducible refine Kd.C_drewN ?_ _) | (with_reducible refine Kd.C_drew ?_))); (case side4 => exact HC1.out); rintro e w' ⟨rfl, ⟨nd, rfl⟩⟩; (try first | exact ⟨rfl, _, World.drewN_drewN _ _ _⟩ | exact ⟨rfl, _, Eq.trans (World.drewN_drewN _ _ _) (congrArg (World.drewN _) (Nat.add_assoc _ _ _))⟩))); try go_wp2_with (first | (go_at_call 29; (with_reducible refine (crc_Burst.calls kj17 _ _ l0 _ _ l1 t204 _ ?side1 ?side2 ?side3 ?side4 A55.out).mono ?_); (case side1 => repeat (first | exact (Kd.C_below HR0.out HB.out) | (with_reducible refine Kd.C_alloc ?_ _) | (with_reducible refine Kd.C_drewN ?_ _) | (with_reducible refine Kd.C_drew ?_))); (case side2 => exact HC0.out); (case side3 => repeat (first | exact (Kd.C_below HR1.out HB.out) | (with_reducible refine Kd.C_alloc ?_ _) | (with_reducible refine Kd.C_drewN ?_ _) | (with_reducible refine Kd.C_drew ?_))); (case side4 => exact HC1.out); rintro e w' ⟨rfl, ⟨nd, rfl⟩⟩; (try first | exact ⟨rfl, _, World.drewN_drewN _ _ _⟩ | exact ⟨rfl, _, Eq.trans (World.drewN_drewN _ _ _) (congrArg (World.drewN _) (Nat.add_assoc _ _ _))⟩))))
                go_ret
                exact ⟨by first | rfl | (simp [errW_none, errW_some] <;> rfl) | (simp [*, errW_none, errW_some] <;> rfl), by repeat (first | (with_reducible first | exact HB.out | apply below_alloc | apply pw_below_drewN | apply below_drew1) | exact HB.out)⟩

/-- THE ONE PURE STATEMENT of bakelaw2_CrcSeals. -/
def bakelaw2_CrcSeals.Pure : Prop := ∀ (x0 : List Int) (x1 : List Int), (∀ y0 ∈ x0, ((Lit.int .u8 y0).wf = true)) → (x0.length ≤ 1048576 ∧ ∀ y0 ∈ x0, (True)) → (∀ y0 ∈ x1, ((Lit.int .u8 y0).wf = true)) → (x1.length ≤ 1048576 ∧ ∀ y0 ∈ x1, (True)) → ∃ k, bakelaw2_CrcSeals.f k x0 x1 = some true

end Go.Proofs.Ytgiodeiibmbhhaa.PCrcSeals
