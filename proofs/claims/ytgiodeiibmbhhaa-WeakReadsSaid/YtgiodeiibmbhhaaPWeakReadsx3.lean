-- Written by this session's own program (wip/mp, over the kit's print) for this claim; Lean checks it.
import Derived.Test.YtgiodeiibmbhhaaPWeakReadsx0
import Derived.Test.YtgiodeiibmbhhaaPWeakReadsx2
namespace Go.Proofs.Ytgiodeiibmbhhaa.PWeakReads
open Go.RowKit Go.Proofs.YtgiodeiibmbhhaaW.PrintWords Go.Proofs.YtgiodeiibmbhhaaW.PrintLast Go.Proofs.YtgiodeiibmbhhaaW.PrintMore
attribute [local go_sem] max2_int min2_int max_two min_two max_three min_three max_four min_four   -- for this text's walks alone
set_option linter.unusedVariables false
set_option linter.unusedSimpArgs false

/-! ### slices_IndexFunc_bakeref2_TrackErr_1: function 141 -/
def slices_IndexFunc_bakeref2_TrackErr_1.l0 : Nat → List Int → Int → Int → Option (Int)
  | 0, _, _, _ => none
  | k + 1, x0, x7, x8 => if x8 < x7 then (if 0 ≤ x8 then (if x8 < (x0.length : Int) then ((bakeref2_TrackErr_1.f (rd x0 x8)).bind fun t143 => (if t143 = true then (some x8) else (slices_IndexFunc_bakeref2_TrackErr_1.l0 k x0 x7 (wrap64 (x8 + 1))))) else (none)) else (none)) else (some (-1))
def slices_IndexFunc_bakeref2_TrackErr_1.f (k : Nat) (l0 : List Int) : Option (Int) := slices_IndexFunc_bakeref2_TrackErr_1.l0 k l0 (l0.length : Int) 0
theorem slices_IndexFunc_bakeref2_TrackErr_1.mono_l : ∀ k, (∀ y0 y1 y2, LeO (slices_IndexFunc_bakeref2_TrackErr_1.l0 k y0 y1 y2) (slices_IndexFunc_bakeref2_TrackErr_1.l0 (k + 1) y0 y1 y2))
  | 0 => fun _ _ _ r h => by simp [slices_IndexFunc_bakeref2_TrackErr_1.l0] at h
  | k + 1 => by
    have ih0 := slices_IndexFunc_bakeref2_TrackErr_1.mono_l k
    · intro y0 y1 y2
      unfold slices_IndexFunc_bakeref2_TrackErr_1.l0
      repeat' first
      | (with_reducible exact ih0 _ _ _)
      | (with_reducible exact LeO.refl _)
      | (with_reducible exact LeO.none _)
      | (with_reducible refine LeO.ite ?_ ?_)
      | (with_reducible refine LeO.bind ?_ (fun _ => ?_))
      | exact ih0 _ _ _
      | exact LeO.none _
      | refine LeO.ite ?_ ?_
      | refine LeO.bind ?_ (fun _ => ?_)
theorem slices_IndexFunc_bakeref2_TrackErr_1.mono : ∀ a0 k, LeO (slices_IndexFunc_bakeref2_TrackErr_1.f k a0) (slices_IndexFunc_bakeref2_TrackErr_1.f (k + 1) a0) := by
  intro a0 k
  have ih0 := slices_IndexFunc_bakeref2_TrackErr_1.mono_l k
  unfold slices_IndexFunc_bakeref2_TrackErr_1.f
  repeat' first
      | (with_reducible exact ih0 _ _ _)
      | (with_reducible exact LeO.refl _)
      | (with_reducible exact LeO.none _)
      | (with_reducible refine LeO.ite ?_ ?_)
      | (with_reducible refine LeO.bind ?_ (fun _ => ?_))
      | exact ih0 _ _ _
      | exact LeO.none _
      | refine LeO.ite ?_ ?_
      | refine LeO.bind ?_ (fun _ => ?_)
set_option maxHeartbeats 8000000 in
set_option maxRecDepth 100000 in
theorem slices_IndexFunc_bakeref2_TrackErr_1.calls (k : Nat) (A0 : Option Addr) (c0 : Nat) (l0 : List Int) (r : Int) (w : World) (hr0 : Kd.C (Kd.int .i64) w A0 l0.length l0) (hc0 : l0.length ≤ c0) (h : slices_IndexFunc_bakeref2_TrackErr_1.f k l0 = some r) :
    Calls Try.prog 119 #[.slice A0 l0.length c0, .func (.func 90) #[] #[]] w fun e w' => e = .returned (.int .i64 r) ∧ Drawn0 w w' := by
  have HR0 := Aside0.mk hr0
  have HC0 := Aside0.mk hc0
  clear hr0 hc0
  have H : (slices_IndexFunc_bakeref2_TrackErr_1.l0 k l0 (l0.length : Int) 0) = some r := h
  clear h
  have H' := Aside0.mk H
  clear H
  go_enter Try.func119, Try.ntmps119
  go_wp2
  go_loopg [8] k (fun kq v8 w' => ∃ (x8_1 : Int), v8 = .int .i64 x8_1 ∧ Aside0 (slices_IndexFunc_bakeref2_TrackErr_1.l0 kq l0 (l0.length : Int) x8_1 = some r) ∧ Aside0 (kq ≤ k) ∧ Drawn0 w w')
  case atStart => exact ⟨(0), (by first | rfl | (simp; done) | (simp [*]; done)), H', ⟨Nat.le_refl _⟩, by repeat (first | exact Drawn0.refl _ | apply Drawn0.step)⟩
  case round =>
    clear H'
    try clear c1
    obtain ⟨x8_1, rfl, HA, HK1, ⟨m1, rfl⟩⟩ := hrel
    cases gk with
    | zero => exact absurd HA.out (by simp [slices_IndexFunc_bakeref2_TrackErr_1.l0])
    | succ k1 =>
      have H := HA.out
      clear HA
      simp only [slices_IndexFunc_bakeref2_TrackErr_1.l0] at H
      by_cases c2 : x8_1 < (l0.length : Int)
      · rw [if_pos c2] at H
        have c2b0 : decide (x8_1 < (l0.length : Int)) = true := decide_eq_true c2
        clear c2
        by_cases c3 : 0 ≤ x8_1
        · rw [if_pos c3] at H
          have c3b0 : decide (0 ≤ x8_1) = true := decide_eq_true c3
          clear c3
          by_cases c4 : x8_1 < (l0.length : Int)
          · rw [if_pos c4] at H
            have c4b0 : decide (x8_1 < (l0.length : Int)) = true := decide_eq_true c4
            clear c4
            replace H := Option.bind_eq_some_iff.mp H
            obtain ⟨t143, A50, H⟩ := H
            replace H : (if t143 = true then (some x8_1) else (slices_IndexFunc_bakeref2_TrackErr_1.l0 k1 l0 (l0.length : Int) (wrap64 (x8_1 + 1)))) = some r := H
            have A5 := Aside0.mk A50
            clear A50
            by_cases c6 : t143 = true
            · subst c6
              have H1 : (some x8_1) = some r := by rw [if_pos rfl] at H; exact H
              clear H
              have H := H1
              clear H1
              obtain rfl := Option.some.inj H
              have p142 : 0 ≤ (x8_1 : Int) := of_decide_eq_true (by first | (with_reducible assumption) | assumption)
              have q142 : x8_1 < (l0.length : Int) := of_decide_eq_true (by first | (with_reducible assumption) | assumption)
              obtain ⟨ad142, e142, hx142_0⟩ := Kd.at_int HR0.out x8_1 p142 q142
              cases e142
              replace p142 := eq_true p142
              replace q142 := eq_true q142
              go_wp2_with (first | (go_at_call 90; (with_reducible refine (bakeref2_TrackErr_1.calls (rd l0 x8_1) true _ A5.out).mono ?_); rintro e w' ⟨rfl, ⟨nd, rfl⟩⟩))
              go_ret
              exact ⟨by first | rfl | (simp; done) | (simp [*]; done), by repeat (first | exact Drawn0.refl _ | apply Drawn0.step)⟩
            · replace c6 := Bool.eq_false_iff.mpr c6
              subst c6
              have H1 : (slices_IndexFunc_bakeref2_TrackErr_1.l0 k1 l0 (l0.length : Int) (wrap64 (x8_1 + 1))) = some r := by rw [if_neg (show ¬ (false = true) by decide)] at H; exact H
              clear H
              have H := H1
              clear H1
              have H' := Aside0.mk H
              clear H
              have p142 : 0 ≤ (x8_1 : Int) := of_decide_eq_true (by first | (with_reducible assumption) | assumption)
              have q142 : x8_1 < (l0.length : Int) := of_decide_eq_true (by first | (with_reducible assumption) | assumption)
              obtain ⟨ad142, e142, hx142_0⟩ := Kd.at_int HR0.out x8_1 p142 q142
              cases e142
              replace p142 := eq_true p142
              replace q142 := eq_true q142
              go_wp2_with (first | (go_at_call 90; (with_reducible refine (bakeref2_TrackErr_1.calls (rd l0 x8_1) false _ A5.out).mono ?_); rintro e w' ⟨rfl, ⟨nd, rfl⟩⟩))
              go_roundg k1
              case measure => have := HK1.out; omega
              case rel => exact ⟨(wrap64 (x8_1 + 1)), (by first | rfl | (simp; done) | (simp [*]; done)), H', ⟨by have := HK1.out; omega⟩, by repeat (first | exact Drawn0.refl _ | apply Drawn0.step)⟩
          · rw [if_neg c4] at H
            exact absurd H (by simp)
        · rw [if_neg c3] at H
          exact absurd H (by simp)
      · rw [if_neg c2] at H
        have c2b0 : decide (x8_1 < (l0.length : Int)) = false := decide_eq_false c2
        clear c2
        obtain rfl := Option.some.inj H
        go_wp2
        go_ret
        exact ⟨by first | rfl | (simp; done) | (simp [*]; done), by repeat (first | exact Drawn0.refl _ | apply Drawn0.step)⟩

/-! ### slices_ContainsFunc_bakeref2_TrackErr_1: function 140 -/
def slices_ContainsFunc_bakeref2_TrackErr_1.f (k : Nat) (l0 : List Int) : Option (Bool) := (slices_IndexFunc_bakeref2_TrackErr_1.f k l0).bind fun t144 => (some (decide (t144 ≥ 0)))
theorem slices_ContainsFunc_bakeref2_TrackErr_1.mono : ∀ a0 k, LeO (slices_ContainsFunc_bakeref2_TrackErr_1.f k a0) (slices_ContainsFunc_bakeref2_TrackErr_1.f (k + 1) a0) := by
  intro a0 k
  unfold slices_ContainsFunc_bakeref2_TrackErr_1.f
  repeat' first
      | (with_reducible exact slices_IndexFunc_bakeref2_TrackErr_1.mono _ _)
      | (with_reducible exact LeO.refl _)
      | (with_reducible exact LeO.none _)
      | (with_reducible refine LeO.ite ?_ ?_)
      | (with_reducible refine LeO.bind ?_ (fun _ => ?_))
      | exact slices_IndexFunc_bakeref2_TrackErr_1.mono _ _
      | exact LeO.none _
      | refine LeO.ite ?_ ?_
      | refine LeO.bind ?_ (fun _ => ?_)
set_option maxHeartbeats 8000000 in
set_option maxRecDepth 100000 in
theorem slices_ContainsFunc_bakeref2_TrackErr_1.calls (k : Nat) (A0 : Option Addr) (c0 : Nat) (l0 : List Int) (r : Bool) (w : World) (hr0 : Kd.C (Kd.int .i64) w A0 l0.length l0) (hc0 : l0.length ≤ c0) (h : slices_ContainsFunc_bakeref2_TrackErr_1.f k l0 = some r) :
    Calls Try.prog 89 #[.slice A0 l0.length c0, .func (.func 90) #[] #[]] w fun e w' => e = .returned (.bool r) ∧ Drawn0 w w' := by
  have HR0 := Aside0.mk hr0
  have HC0 := Aside0.mk hc0
  clear hr0 hc0
  have H : ((slices_IndexFunc_bakeref2_TrackErr_1.f k l0).bind fun t144 => (some (decide (t144 ≥ 0)))) = some r := h
  clear h
  replace H := Option.bind_eq_some_iff.mp H
  obtain ⟨t144, A20, H⟩ := H
  replace H : (some (decide (t144 ≥ 0))) = some r := H
  have A2 := Aside0.mk A20
  clear A20
  obtain rfl := Option.some.inj H
  go_enter Try.func89, Try.ntmps89
  go_wp2_with (first | ((with_reducible refine gate_callee (f := 119) rfl ?_); refine goesL_ (some 7) rfl rfl Try.func119 (by kernel_rfl) rfl #[.slice A0 l0.length c0, .func (.func 90) #[] #[]] rfl (by (try simp only [List.map_toArray, List.map_cons, List.map_nil]); first | done | rfl | (simp only [List.length_drop, List.length_take]; rfl)) ?_; (with_reducible refine (slices_IndexFunc_bakeref2_TrackErr_1.calls k _ _ l0 t144 _ ?side1 ?side2 A2.out).mono ?_); (case side1 => repeat (first | exact HR0.out | (with_reducible refine Kd.C_alloc ?_ _) | (with_reducible refine Kd.C_drewN ?_ _) | (with_reducible refine Kd.C_drew ?_))); (case side2 => exact HC0.out); rintro e w' ⟨rfl, ⟨nd, rfl⟩⟩; refine ⟨_, rfl, ?_⟩))
  go_ret
  exact ⟨by first | rfl | (simp; done) | (simp [*]; done), by repeat (first | exact Drawn0.refl _ | apply Drawn0.step)⟩

/-! ### bakeref2_TrackErr: function 32 -/
def bakeref2_TrackErr.f (k : Nat) (l0 : List Int) : Option (Int) := if (l0.length : Int) > 40000 then (some 2) else ((slices_ContainsFunc_bakeref2_TrackErr_1.f k l0).bind fun t145 => (if t145 = true then (some 1) else (some 0)))
theorem bakeref2_TrackErr.mono : ∀ a0 k, LeO (bakeref2_TrackErr.f k a0) (bakeref2_TrackErr.f (k + 1) a0) := by
  intro a0 k
  unfold bakeref2_TrackErr.f
  repeat' first
      | (with_reducible exact slices_ContainsFunc_bakeref2_TrackErr_1.mono _ _)
      | (with_reducible exact LeO.refl _)
      | (with_reducible exact LeO.none _)
      | (with_reducible refine LeO.ite ?_ ?_)
      | (with_reducible refine LeO.bind ?_ (fun _ => ?_))
      | exact slices_ContainsFunc_bakeref2_TrackErr_1.mono _ _
      | exact LeO.none _
      | refine LeO.ite ?_ ?_
      | refine LeO.bind ?_ (fun _ => ?_)
set_option maxHeartbeats 8000000 in
set_option maxRecDepth 100000 in
theorem bakeref2_TrackErr.calls (k : Nat) (A0 : Option Addr) (c0 : Nat) (l0 : List Int) (r : Int) (w : World) (hr0 : Kd.C (Kd.int .i64) w A0 l0.length l0) (hc0 : l0.length ≤ c0) (h : bakeref2_TrackErr.f k l0 = some r) :
    Calls Try.prog 32 #[.slice A0 l0.length c0] w fun e w' => e = .returned (.int .i64 r) ∧ Drawn0 w w' := by
  have HR0 := Aside0.mk hr0
  have HC0 := Aside0.mk hc0
  clear hr0 hc0
  have H : (if (l0.length : Int) > 40000 then (some 2) else ((slices_ContainsFunc_bakeref2_TrackErr_1.f k l0).bind fun t145 => (if t145 = true then (some 1) else (some 0)))) = some r := h
  clear h
  by_cases c2 : (l0.length : Int) > 40000
  · rw [if_pos c2] at H
    have c2b0 : decide (40000 < (l0.length : Int)) = true := decide_eq_true c2
    have c2b1 : decide (40000 < l0.length) = true := decide_eq_true (by omega)
    clear c2
    obtain rfl := Option.some.inj H
    go_enter Try.func32, Try.ntmps32
    go_wp2
    go_ret
    exact ⟨by first | rfl | (simp; done) | (simp [*]; done), by repeat (first | exact Drawn0.refl _ | apply Drawn0.step)⟩
  · rw [if_neg c2] at H
    have c2b0 : decide (40000 < (l0.length : Int)) = false := decide_eq_false c2
    have c2b1 : decide (40000 < l0.length) = false := decide_eq_false (by omega)
    clear c2
    replace H := Option.bind_eq_some_iff.mp H
    obtain ⟨t145, A30, H⟩ := H
    replace H : (if t145 = true then (some 1) else (some 0)) = some r := H
    have A3 := Aside0.mk A30
    clear A30
    by_cases c4 : t145 = true
    · subst c4
      have H1 : (some 1) = some r := by rw [if_pos rfl] at H; exact H
      clear H
      have H := H1
      clear H1
      obtain rfl := Option.some.inj H
      go_enter Try.func32, Try.ntmps32
      go_wp2_with (first | ((with_reducible refine gate_callee (f := 89) rfl ?_); refine goesL_ (some 7) rfl rfl Try.func89 (by kernel_rfl) rfl #[.slice A0 l0.length c0, .func (.func 90) #[] #[]] rfl (by (try simp only [List.map_toArray, List.map_cons, List.map_nil]); first | done | rfl | (simp only [List.length_drop, List.length_take]; rfl)) ?_; (with_reducible refine (slices_ContainsFunc_bakeref2_TrackErr_1.calls k _ _ l0 true _ ?side1 ?side2 A3.out).mono ?_); (case side1 => repeat (first | exact HR0.out | (with_reducible refine Kd.C_alloc ?_ _) | (with_reducible refine Kd.C_drewN ?_ _) | (with_reducible refine Kd.C_drew ?_))); (case side2 => exact HC0.out); rintro e w' ⟨rfl, ⟨nd, rfl⟩⟩; refine ⟨_, rfl, ?_⟩))
      go_ret
      exact ⟨by first | rfl | (simp; done) | (simp [*]; done), by repeat (first | exact Drawn0.refl _ | apply Drawn0.step)⟩
    · replace c4 := Bool.eq_false_iff.mpr c4
      subst c4
      have H1 : (some 0) = some r := by rw [if_neg (show ¬ (false = true) by decide)] at H; exact H
      clear H
      have H := H1
      clear H1
      obtain rfl := Option.some.inj H
      go_enter Try.func32, Try.ntmps32
      go_wp2_with (first | ((with_reducible refine gate_callee (f := 89) rfl ?_); refine goesL_ (some 7) rfl rfl Try.func89 (by kernel_rfl) rfl #[.slice A0 l0.length c0, .func (.func 90) #[] #[]] rfl (by (try simp only [List.map_toArray, List.map_cons, List.map_nil]); first | done | rfl | (simp only [List.length_drop, List.length_take]; rfl)) ?_; (with_reducible refine (slices_ContainsFunc_bakeref2_TrackErr_1.calls k _ _ l0 false _ ?side1 ?side2 A3.out).mono ?_); (case side1 => repeat (first | exact HR0.out | (with_reducible refine Kd.C_alloc ?_ _) | (with_reducible refine Kd.C_drewN ?_ _) | (with_reducible refine Kd.C_drew ?_))); (case side2 => exact HC0.out); rintro e w' ⟨rfl, ⟨nd, rfl⟩⟩; refine ⟨_, rfl, ?_⟩))
      go_ret
      exact ⟨by first | rfl | (simp; done) | (simp [*]; done), by repeat (first | exact Drawn0.refl _ | apply Drawn0.step)⟩

/-! ### bakeref2_SurfaceErr: function 56 -/
mutual
def bakeref2_SurfaceErr.l0 : Nat → List (S122) → Int → Int → List Int → List (S122) → Option (Int)
  | 0, _, _, _, _, _ => none
  | k + 1, x18, x19, x20, x147000, x147001 => if x20 < x19 then (if 0 ≤ x20 then (if x20 < (x18.length : Int) then (if x20 > 0 then (if 0 ≤ (wrap64 (x20 - 1)) then (if (wrap64 (x20 - 1)) < (x147001.length : Int) then (bakeref2_SurfaceErr.j1 k ((rd_T122 x147001 (wrap64 (x20 - 1))).f1) x18 x19 x20 x147000 x147001 ((rd_T122 x18 x20).f0) ((rd_T122 x18 x20).f1) ((rd_T122 x18 x20).f2)) else (none)) else (none)) else (bakeref2_SurfaceErr.j1 k 0 x18 x19 x20 x147000 x147001 ((rd_T122 x18 x20).f0) ((rd_T122 x18 x20).f1) ((rd_T122 x18 x20).f2))) else (none)) else (none)) else (some 0)
def bakeref2_SurfaceErr.j1 : Nat → Int → List (S122) → Int → Int → List Int → List (S122) → Int → Int → Int → Option (Int)
  | 0, _, _, _, _, _, _, _, _, _ => none
  | k + 1, x6, x18, x19, x20, x147000, x147001, x150000, x150001, x150002 => if x150000 < x6 then (bakeref2_SurfaceErr.j2 k x18 x19 x20 true x147000 x147001 x150000 x150001 x150002) else (if x150001 < x150000 then (bakeref2_SurfaceErr.j2 k x18 x19 x20 true x147000 x147001 x150000 x150001 x150002) else (bakeref2_SurfaceErr.j2 k x18 x19 x20 (decide (x150001 > (x147000.length : Int))) x147000 x147001 x150000 x150001 x150002))
def bakeref2_SurfaceErr.j2 : Nat → List (S122) → Int → Int → Bool → List Int → List (S122) → Int → Int → Int → Option (Int)
  | 0, _, _, _, _, _, _, _, _, _ => none
  | k + 1, x18, x19, x20, x52, x147000, x147001, x150000, x150001, x150002 => if x52 = true then (some 9) else (if x150002 < 0 then (some 1) else (if x150002 > 100000 then (some 1) else (bakeref2_SurfaceErr.l0 k x18 x19 (wrap64 (x20 + 1)) x147000 x147001)))
end
def bakeref2_SurfaceErr.f (k : Nat) (l0_0 : List Int) (l0_1 : List (S122)) : Option (Int) := (bakeref2_TrackErr.f k l0_0).bind fun t147 => (if t147 = 0 then (if (l0_1.length : Int) > 32 then (some 2) else (bakeref2_SurfaceErr.l0 k l0_1 (l0_1.length : Int) 0 l0_0 l0_1)) else (some t147))
theorem bakeref2_SurfaceErr.mono_l : ∀ k, (∀ y0 y1 y2 y3 y4, LeO (bakeref2_SurfaceErr.l0 k y0 y1 y2 y3 y4) (bakeref2_SurfaceErr.l0 (k + 1) y0 y1 y2 y3 y4)) ∧ (∀ y0 y1 y2 y3 y4 y5 y6 y7 y8, LeO (bakeref2_SurfaceErr.j1 k y0 y1 y2 y3 y4 y5 y6 y7 y8) (bakeref2_SurfaceErr.j1 (k + 1) y0 y1 y2 y3 y4 y5 y6 y7 y8)) ∧ (∀ y0 y1 y2 y3 y4 y5 y6 y7 y8, LeO (bakeref2_SurfaceErr.j2 k y0 y1 y2 y3 y4 y5 y6 y7 y8) (bakeref2_SurfaceErr.j2 (k + 1) y0 y1 y2 y3 y4 y5 y6 y7 y8))
  | 0 => ⟨fun _ _ _ _ _ r h => by simp [bakeref2_SurfaceErr.l0] at h, fun _ _ _ _ _ _ _ _ _ r h => by simp [bakeref2_SurfaceErr.j1] at h, fun _ _ _ _ _ _ _ _ _ r h => by simp [bakeref2_SurfaceErr.j2] at h⟩
  | k + 1 => by
    obtain ⟨ih0, ih1, ih2⟩ := bakeref2_SurfaceErr.mono_l k
    refine ⟨?_, ?_, ?_⟩
    · intro y0 y1 y2 y3 y4
      unfold bakeref2_SurfaceErr.l0
      repeat' first
      | (with_reducible exact ih0 _ _ _ _ _)
      | (with_reducible exact ih1 _ _ _ _ _ _ _ _ _)
      | (with_reducible exact ih2 _ _ _ _ _ _ _ _ _)
      | (with_reducible exact bakeref2_TrackErr.mono _ _)
      | (with_reducible exact LeO.refl _)
      | (with_reducible exact LeO.none _)
      | (with_reducible refine LeO.ite ?_ ?_)
      | (with_reducible refine LeO.bind ?_ (fun _ => ?_))
      | exact ih0 _ _ _ _ _
      | exact ih1 _ _ _ _ _ _ _ _ _
      | exact ih2 _ _ _ _ _ _ _ _ _
      | exact bakeref2_TrackErr.mono _ _
      | exact LeO.none _
      | refine LeO.ite ?_ ?_
      | refine LeO.bind ?_ (fun _ => ?_)
    · intro y0 y1 y2 y3 y4 y5 y6 y7 y8
      unfold bakeref2_SurfaceErr.j1
      repeat' first
      | (with_reducible exact ih0 _ _ _ _ _)
      | (with_reducible exact ih1 _ _ _ _ _ _ _ _ _)
      | (with_reducible exact ih2 _ _ _ _ _ _ _ _ _)
      | (with_reducible exact bakeref2_TrackErr.mono _ _)
      | (with_reducible exact LeO.refl _)
      | (with_reducible exact LeO.none _)
      | (with_reducible refine LeO.ite ?_ ?_)
      | (with_reducible refine LeO.bind ?_ (fun _ => ?_))
      | exact ih0 _ _ _ _ _
      | exact ih1 _ _ _ _ _ _ _ _ _
      | exact ih2 _ _ _ _ _ _ _ _ _
      | exact bakeref2_TrackErr.mono _ _
      | exact LeO.none _
      | refine LeO.ite ?_ ?_
      | refine LeO.bind ?_ (fun _ => ?_)
    · intro y0 y1 y2 y3 y4 y5 y6 y7 y8
      unfold bakeref2_SurfaceErr.j2
      repeat' first
      | (with_reducible exact ih0 _ _ _ _ _)
      | (with_reducible exact ih1 _ _ _ _ _ _ _ _ _)
      | (with_reducible exact ih2 _ _ _ _ _ _ _ _ _)
      | (with_reducible exact bakeref2_TrackErr.mono _ _)
      | (with_reducible exact LeO.refl _)
      | (with_reducible exact LeO.none _)
      | (with_reducible refine LeO.ite ?_ ?_)
      | (with_reducible refine LeO.bind ?_ (fun _ => ?_))
      | exact ih0 _ _ _ _ _
      | exact ih1 _ _ _ _ _ _ _ _ _
      | exact ih2 _ _ _ _ _ _ _ _ _
      | exact bakeref2_TrackErr.mono _ _
      | exact LeO.none _
      | refine LeO.ite ?_ ?_
      | refine LeO.bind ?_ (fun _ => ?_)
theorem bakeref2_SurfaceErr.mono : ∀ a0 a1 k, LeO (bakeref2_SurfaceErr.f k a0 a1) (bakeref2_SurfaceErr.f (k + 1) a0 a1) := by
  intro a0 a1 k
  obtain ⟨ih0, ih1, ih2⟩ := bakeref2_SurfaceErr.mono_l k
  unfold bakeref2_SurfaceErr.f
  repeat' first
      | (with_reducible exact ih0 _ _ _ _ _)
      | (with_reducible exact ih1 _ _ _ _ _ _ _ _ _)
      | (with_reducible exact ih2 _ _ _ _ _ _ _ _ _)
      | (with_reducible exact bakeref2_TrackErr.mono _ _)
      | (with_reducible exact LeO.refl _)
      | (with_reducible exact LeO.none _)
      | (with_reducible refine LeO.ite ?_ ?_)
      | (with_reducible refine LeO.bind ?_ (fun _ => ?_))
      | exact ih0 _ _ _ _ _
      | exact ih1 _ _ _ _ _ _ _ _ _
      | exact ih2 _ _ _ _ _ _ _ _ _
      | exact bakeref2_TrackErr.mono _ _
      | exact LeO.none _
      | refine LeO.ite ?_ ?_
      | refine LeO.bind ?_ (fun _ => ?_)
set_option maxHeartbeats 8000000 in
set_option maxRecDepth 100000 in
theorem bakeref2_SurfaceErr.calls (k : Nat) (A0_0 : Option Addr) (c0_0 : Nat) (l0_0 : List Int) (A0_1 : Option Addr) (c0_1 : Nat) (l0_1 : List (S122)) (r : Int) (w : World) (hr0_0 : Kd.C (Kd.int .i64) w A0_0 l0_0.length l0_0) (hc0_0 : l0_0.length ≤ c0_0) (hr0_1 : Kd.C k122 w A0_1 l0_1.length l0_1) (hc0_1 : l0_1.length ≤ c0_1) (h : bakeref2_SurfaceErr.f k l0_0 l0_1 = some r) :
    Calls Try.prog 56 #[.agg #[.slice A0_0 l0_0.length c0_0, .slice A0_1 l0_1.length c0_1]] w fun e w' => e = .returned (.int .i64 r) ∧ Below w.heap.size w w' := by
  have hu73 := Try.underlying73
  have hu122 := Try.underlying122
  have HR0_0 := Aside0.mk hr0_0
  have HC0_0 := Aside0.mk hc0_0
  clear hr0_0 hc0_0
  have HR0_1 := Aside0.mk hr0_1
  have HC0_1 := Aside0.mk hc0_1
  clear hr0_1 hc0_1
  have HB := Aside0.mk (Below.refl w.heap.size w)
  have H : ((bakeref2_TrackErr.f k l0_0).bind fun t147 => (if t147 = 0 then (if (l0_1.length : Int) > 32 then (some 2) else (bakeref2_SurfaceErr.l0 k l0_1 (l0_1.length : Int) 0 l0_0 l0_1)) else (some t147))) = some r := h
  clear h
  replace H := Option.bind_eq_some_iff.mp H
  obtain ⟨t147, A20, H⟩ := H
  replace H : (if t147 = 0 then (if (l0_1.length : Int) > 32 then (some 2) else (bakeref2_SurfaceErr.l0 k l0_1 (l0_1.length : Int) 0 l0_0 l0_1)) else (some t147)) = some r := H
  have A2 := Aside0.mk A20
  clear A20
  by_cases c3 : t147 = 0
  · rw [if_pos c3] at H
    have c3b0 : (t147 == 0) = true := beq_iff_eq.mpr c3
    have c3b1 : (t147 != 0) = false := bne_eq_false_iff_eq.mpr c3
    clear c3
    by_cases c4 : (l0_1.length : Int) > 32
    · rw [if_pos c4] at H
      have c4b0 : decide (32 < (l0_1.length : Int)) = true := decide_eq_true c4
      have c4b1 : decide (32 < l0_1.length) = true := decide_eq_true (by omega)
      clear c4
      obtain rfl := Option.some.inj H
      go_enter Try.func56, Try.ntmps56
      go_wp2_with (first | ((with_reducible refine gate_dst (N := 1) rfl ?_); (try (refine gate_guard (by rfl) ?_; dsimp only)); refine box_event ?hg (N := 1) ?hd (cs := #[.slice A0_0 l0_0.length c0_0, .slice A0_1 l0_1.length c0_1]) (t := 73) ?hr ?_; (case hd => rfl); (case hg => rfl); (case hr => first | (go_simp; done) | (go_simp; rfl)); intro gb146 hg w5 hbox hb; have n0_ := Aside0.mk (below_step (by repeat (first | (with_reducible first | exact HB.out | apply below_alloc | apply pw_below_drewN | apply below_drew1) | exact HB.out)) hb); have n1_ := Aside0.mk (hbox); have n2_ := Aside0.mk ((by rw [hg]; exact (below_size (by repeat (first | (with_reducible first | exact HB.out | apply below_alloc | apply pw_below_drewN | apply below_drew1) | exact HB.out))) : w.heap.size ≤ gb146)); have n3_ := Aside0.mk ((by rw [hg]; exact (below_size (by repeat (first | (with_reducible first | exact HB.out | apply below_alloc | apply pw_below_drewN | apply below_drew1) | exact HB.out))) : w.heap.size ≤ gb146)); clear HB; have HB := n0_; have BK146 := n1_; have GW146 := n2_; have GE146 := n3_; clear n0_ n1_ n2_ n3_; clear hb hbox hg; have hcz6_0 : w5.cell? ⟨gb146, 0, none⟩ = some (.slice A0_0 l0_0.length c0_0) := (blk_cell BK146.out 0).trans rfl; have hcz6_1 : w5.cell? ⟨gb146, 1, none⟩ = some (.slice A0_1 l0_1.length c0_1) := (blk_cell BK146.out 1).trans rfl; have hfz6_0 := blk_frozen BK146.out 0; have hfz6_1 := blk_frozen BK146.out 1) | ((with_reducible refine gate_callee (f := 32) rfl ?_); refine goesL_ (some 9) rfl rfl Try.func32 (by kernel_rfl) rfl #[.slice A0_0 l0_0.length c0_0] rfl (by (try simp only [List.map_toArray, List.map_cons, List.map_nil]); first | done | rfl | (simp only [List.length_drop, List.length_take]; rfl)) ?_; (with_reducible refine (bakeref2_TrackErr.calls k _ _ l0_0 t147 _ ?side1 ?side2 A2.out).mono ?_); (case side1 => repeat (first | exact (Kd.C_below HR0_0.out HB.out) | (with_reducible refine Kd.C_alloc ?_ _) | (with_reducible refine Kd.C_drewN ?_ _) | (with_reducible refine Kd.C_drew ?_))); (case side2 => exact HC0_0.out); rintro e w' ⟨rfl, ⟨nd, rfl⟩⟩; refine ⟨_, rfl, ?_⟩))
      go_ret
      exact ⟨by first | rfl | (simp [errW_none, errW_some] <;> rfl) | (simp [*, errW_none, errW_some] <;> rfl), by repeat (first | (with_reducible first | exact HB.out | apply below_alloc | apply pw_below_drewN | apply below_drew1 | refine below_set ?_ GE146.out) | exact HB.out)⟩
    · rw [if_neg c4] at H
      have c4b0 : decide (32 < (l0_1.length : Int)) = false := decide_eq_false c4
      have c4b1 : decide (32 < l0_1.length) = false := decide_eq_false (by omega)
      clear c4
      have H' := Aside0.mk H
      clear H
      go_enter Try.func56, Try.ntmps56
      go_wp2_with (first | ((with_reducible refine gate_dst (N := 1) rfl ?_); (try (refine gate_guard (by rfl) ?_; dsimp only)); refine box_event ?hg (N := 1) ?hd (cs := #[.slice A0_0 l0_0.length c0_0, .slice A0_1 l0_1.length c0_1]) (t := 73) ?hr ?_; (case hd => rfl); (case hg => rfl); (case hr => first | (go_simp; done) | (go_simp; rfl)); intro gb146 hg w7 hbox hb; have n0_ := Aside0.mk (below_step (by repeat (first | (with_reducible first | exact HB.out | apply below_alloc | apply pw_below_drewN | apply below_drew1) | exact HB.out)) hb); have n1_ := Aside0.mk (hbox); have n2_ := Aside0.mk ((by rw [hg]; exact (below_size (by repeat (first | (with_reducible first | exact HB.out | apply below_alloc | apply pw_below_drewN | apply below_drew1) | exact HB.out))) : w.heap.size ≤ gb146)); have n3_ := Aside0.mk ((by rw [hg]; exact (below_size (by repeat (first | (with_reducible first | exact HB.out | apply below_alloc | apply pw_below_drewN | apply below_drew1) | exact HB.out))) : w.heap.size ≤ gb146)); clear HB; have HB := n0_; have BK146 := n1_; have GW146 := n2_; have GE146 := n3_; clear n0_ n1_ n2_ n3_; clear hb hbox hg; have hcz8_0 : w7.cell? ⟨gb146, 0, none⟩ = some (.slice A0_0 l0_0.length c0_0) := (blk_cell BK146.out 0).trans rfl; have hcz8_1 : w7.cell? ⟨gb146, 1, none⟩ = some (.slice A0_1 l0_1.length c0_1) := (blk_cell BK146.out 1).trans rfl; have hfz8_0 := blk_frozen BK146.out 0; have hfz8_1 := blk_frozen BK146.out 1) | ((with_reducible refine gate_callee (f := 32) rfl ?_); refine goesL_ (some 9) rfl rfl Try.func32 (by kernel_rfl) rfl #[.slice A0_0 l0_0.length c0_0] rfl (by (try simp only [List.map_toArray, List.map_cons, List.map_nil]); first | done | rfl | (simp only [List.length_drop, List.length_take]; rfl)) ?_; (with_reducible refine (bakeref2_TrackErr.calls k _ _ l0_0 t147 _ ?side1 ?side2 A2.out).mono ?_); (case side1 => repeat (first | exact (Kd.C_below HR0_0.out HB.out) | (with_reducible refine Kd.C_alloc ?_ _) | (with_reducible refine Kd.C_drewN ?_ _) | (with_reducible refine Kd.C_drew ?_))); (case side2 => exact HC0_0.out); rintro e w' ⟨rfl, ⟨nd, rfl⟩⟩; refine ⟨_, rfl, ?_⟩))
      go_loopg [20] k (fun kq v20 w' => ∃ (x20_1 : Int), v20 = .int .i64 x20_1 ∧ Aside0 (bakeref2_SurfaceErr.l0 kq l0_1 (l0_1.length : Int) x20_1 l0_0 l0_1 = some r) ∧ Aside0 (kq ≤ k) ∧ Aside0 (w'.heap[gb146]? = some (.cells #[(.slice A0_0 l0_0.length c0_0), (.slice A0_1 l0_1.length c0_1)] 73 (0, 0))) ∧ Aside0 (Below w.heap.size w w'))
      case atStart => exact ⟨(0), (by first | rfl | (simp; done) | (simp [*]; done)), H', ⟨Nat.le_refl _⟩, ⟨by (with_reducible repeat (first | refine blk_drewN ?_ _ | refine blk_drew ?_ | refine blk_alloc ?_ _)); exact BK146.out⟩, ⟨by repeat (first | (with_reducible first | exact HB.out | apply below_alloc | apply pw_below_drewN | apply below_drew1 | refine below_set ?_ GE146.out) | exact HB.out)⟩⟩
      case round =>
        clear H'
        try clear p2
        try clear c3
        try clear c3b0
        try clear c3b1
        try clear c4
        try clear c4b0
        try clear c4b1
        try clear c5
        try clear hcz6_0
        try clear hcz6_1
        try clear hcz8_0
        try clear hcz8_1
        try clear hfz6_0
        try clear hfz6_1
        try clear hfz8_0
        try clear hfz8_1
        obtain ⟨x20_1, rfl, HA, HK1, BK146, HB⟩ := hrel
        cases gk with
        | zero => exact absurd HA.out (by simp [bakeref2_SurfaceErr.l0])
        | succ k1 =>
          have H := HA.out
          clear HA
          simp only [bakeref2_SurfaceErr.l0] at H
          by_cases c9 : x20_1 < (l0_1.length : Int)
          · rw [if_pos c9] at H
            have c9b0 : decide (x20_1 < (l0_1.length : Int)) = true := decide_eq_true c9
            clear c9
            by_cases c10 : 0 ≤ x20_1
            · rw [if_pos c10] at H
              have c10b0 : decide (0 ≤ x20_1) = true := decide_eq_true c10
              clear c10
              by_cases c11 : x20_1 < (l0_1.length : Int)
              · rw [if_pos c11] at H
                have c11b0 : decide (x20_1 < (l0_1.length : Int)) = true := decide_eq_true c11
                clear c11
                have HC12 := Aside0.mk H
                clear H
                have p148 : 0 ≤ (x20_1 : Int) := of_decide_eq_true (by first | (with_reducible assumption) | assumption)
                have q148 : x20_1 < (l0_1.length : Int) := of_decide_eq_true (by first | (with_reducible assumption) | assumption)
                obtain ⟨ad148, e148, hx148_0, hx148_1, hx148_2⟩ := at_T122 HR0_1.out x20_1 p148 q148
                cases e148
                replace hx148_0 := (HB.out.cell (World.block_lt_of_cell? w _ hx148_0)).trans hx148_0
                replace hx148_1 := (HB.out.cell (World.block_lt_of_cell? w _ hx148_1)).trans hx148_1
                replace hx148_2 := (HB.out.cell (World.block_lt_of_cell? w _ hx148_2)).trans hx148_2
                replace p148 := eq_true p148
                replace q148 := eq_true q148
                go_upto_if 26 with (first | ((with_reducible refine gate_dst (N := 5) rfl ?_); (try (refine gate_guard (by rfl) ?_; dsimp only)); refine box_event ?hg (N := 5) ?hd (cs := #[.int .i64 0, .int .i64 0, .int .i64 0]) (t := 122) ?hr ?_; (case hd => rfl); (case hg => rfl); (case hr => first | (go_simp; done) | (go_simp; rfl)); intro gb149 hg w13 hbox hb; have n0_ := Aside0.mk (blk_below (g := gb146) (o := .cells #[.slice A0_0 l0_0.length c0_0, .slice (some ad148) l0_1.length c0_1] 73 (0, 0)) (by (with_reducible repeat (first | refine blk_drewN ?_ _ | refine blk_drew ?_ | refine blk_alloc ?_ _)); exact BK146.out) hb); have n1_ := Aside0.mk (below_step (by repeat (first | (with_reducible first | exact HB.out | apply below_alloc | apply pw_below_drewN | apply below_drew1 | refine below_set ?_ GE146.out) | exact HB.out)) hb); have n2_ := Aside0.mk (hbox); have n3_ := Aside0.mk ((by rw [hg]; exact (below_size (by repeat (first | (with_reducible first | exact HB.out | apply below_alloc | apply pw_below_drewN | apply below_drew1 | refine below_set ?_ GE146.out) | exact HB.out))) : w.heap.size ≤ gb149)); have n4_ := Aside0.mk ((by rw [hg]; exact (below_size (by repeat (first | (with_reducible first | exact HB.out | apply below_alloc | apply pw_below_drewN | apply below_drew1 | refine below_set ?_ GE146.out) | exact HB.out))) : w.heap.size ≤ gb149)); have n5_ := Aside0.mk ((by rw [hg]; exact Nat.ne_of_lt (blk_lt (g := gb146) (o := .cells #[.slice A0_0 l0_0.length c0_0, .slice (some ad148) l0_1.length c0_1] 73 (0, 0)) (by (with_reducible repeat (first | refine blk_drewN ?_ _ | refine blk_drew ?_ | refine blk_alloc ?_ _)); exact BK146.out)) : gb146 ≠ gb149)); have n6_ := Aside0.mk ((by rw [hg]; exact Nat.ne_of_gt (blk_lt (g := gb146) (o := .cells #[.slice A0_0 l0_0.length c0_0, .slice (some ad148) l0_1.length c0_1] 73 (0, 0)) (by (with_reducible repeat (first | refine blk_drewN ?_ _ | refine blk_drew ?_ | refine blk_alloc ?_ _)); exact BK146.out)) : gb149 ≠ gb146)); clear BK146; clear HB; have BK146 := n0_; have HB := n1_; have BK149 := n2_; have GW149 := n3_; have GE149 := n4_; have NB146_149 := n5_; have NB149_146 := n6_; clear n0_ n1_ n2_ n3_ n4_ n5_ n6_; clear hb hbox hg; have hnb14 := NB149_146.out; have hnc14 := NB146_149.out; have hcz15_0 : w13.cell? ⟨gb149, 0, none⟩ = some (.int .i64 0) := (blk_cell BK149.out 0).trans rfl; have hcz15_1 : w13.cell? ⟨gb149, 1, none⟩ = some (.int .i64 0) := (blk_cell BK149.out 1).trans rfl; have hcz15_2 : w13.cell? ⟨gb149, 2, none⟩ = some (.int .i64 0) := (blk_cell BK149.out 2).trans rfl; have hfz15_0 := blk_frozen BK149.out 0; have hfz15_1 := blk_frozen BK149.out 1; have hfz15_2 := blk_frozen BK149.out 2))
                (try simp only [Act.put, List.setIfInBounds_toArray, List.set_cons_zero, List.set_cons_succ])
                go_cut [6] (fun v6 wc => ∃ (kq : Nat) (x6_11 : Int), v6 = .int .i64 x6_11 ∧ Aside0 (bakeref2_SurfaceErr.j1 kq x6_11 l0_1 (l0_1.length : Int) x20_1 l0_0 l0_1 ((rd_T122 l0_1 x20_1).f0) ((rd_T122 l0_1 x20_1).f1) ((rd_T122 l0_1 x20_1).f2) = some r) ∧ Aside0 (kq ≤ k1) ∧ Aside0 (wc.heap[gb146]? = some (.cells #[(.slice A0_0 l0_0.length c0_0), (.slice (some ad148) l0_1.length c0_1)] 73 (0, 0))) ∧ Aside0 (wc.heap[gb149]? = some (.cells #[.int .i64 ((rd_T122 l0_1 x20_1).f0), .int .i64 ((rd_T122 l0_1 x20_1).f1), .int .i64 ((rd_T122 l0_1 x20_1).f2)] 122 (0, 0))) ∧ Aside0 (Below w.heap.size w wc))
                case first =>
                  have H := HC12.out
                  clear HC12
                  by_cases c16 : x20_1 > 0
                  · rw [if_pos c16] at H
                    have c16b0 : decide (0 < x20_1) = true := decide_eq_true c16
                    clear c16
                    (first | rw [c16b0] | (simp only [i64_w, i32_w]; rw [c16b0]) | skip)
                    obtain ⟨ji17, hji17⟩ : ∃ j_ : Int, (wrap64 (x20_1 - 1)) = j_ := ⟨_, rfl⟩
                    replace H : (if 0 ≤ (ji17) then (if (ji17) < (l0_1.length : Int) then (bakeref2_SurfaceErr.j1 k1 ((rd_T122 l0_1 (ji17)).f1) l0_1 (l0_1.length : Int) x20_1 l0_0 l0_1 ((rd_T122 l0_1 x20_1).f0) ((rd_T122 l0_1 x20_1).f1) ((rd_T122 l0_1 x20_1).f2)) else (none)) else (none)) = some r := by first | (rw [hji17] at H; exact H) | (simp only [hji17] at H ⊢; exact H)
                    have hji17w : (IntKind.i64.wrap (x20_1 - 1)) = ji17 := (i64_w _).trans hji17
                    by_cases c18 : 0 ≤ (ji17)
                    · rw [if_pos c18] at H
                      have c18b0 : decide (0 ≤ (ji17)) = true := decide_eq_true c18
                      clear c18
                      by_cases c19 : (ji17) < (l0_1.length : Int)
                      · rw [if_pos c19] at H
                        have c19b0 : decide ((ji17) < (l0_1.length : Int)) = true := decide_eq_true c19
                        clear c19
                        have H' := Aside0.mk H
                        clear H
                        have hnb20 := NB146_149.out
                        have hnc20 := NB149_146.out
                        have hcz21_0 : w13.cell? ⟨gb146, 0, none⟩ = some (.slice A0_0 l0_0.length c0_0) := (blk_cell BK146.out 0).trans rfl
                        have hcz21_1 : w13.cell? ⟨gb146, 1, none⟩ = some (.slice (some ad148) l0_1.length c0_1) := (blk_cell BK146.out 1).trans rfl
                        have hfz21_0 := blk_frozen BK146.out 0
                        have hfz21_1 := blk_frozen BK146.out 1
                        have p150 : 0 ≤ ((ji17) : Int) := of_decide_eq_true (by first | (with_reducible assumption) | assumption)
                        have q150 : (ji17) < (l0_1.length : Int) := of_decide_eq_true (by first | (with_reducible assumption) | assumption)
                        obtain ⟨ad150, e150, hx150_0, hx150_1, hx150_2⟩ := at_T122 HR0_1.out (ji17) p150 q150
                        obtain rfl : ad148 = ad150 := (by injection e150)
                        have hn150_0 : ad148.block ≠ gb149 := Nat.ne_of_lt (Nat.lt_of_lt_of_le (by have := World.block_lt_of_cell? _ _ hx150_0; first | rwa [add_block] at this | exact this) GW149.out)
                        have hn150_1 : ad148.block ≠ gb149 := Nat.ne_of_lt (Nat.lt_of_lt_of_le (by have := World.block_lt_of_cell? _ _ hx150_0; first | rwa [add_block] at this | exact this) GW149.out)
                        have hn150_2 : ad148.block ≠ gb149 := Nat.ne_of_lt (Nat.lt_of_lt_of_le (by have := World.block_lt_of_cell? _ _ hx150_0; first | rwa [add_block] at this | exact this) GW149.out)
                        replace hx150_0 := (HB.out.cell (World.block_lt_of_cell? w _ hx150_0)).trans hx150_0
                        replace hx150_1 := (HB.out.cell (World.block_lt_of_cell? w _ hx150_1)).trans hx150_1
                        replace hx150_2 := (HB.out.cell (World.block_lt_of_cell? w _ hx150_2)).trans hx150_2
                        replace hx150_0 := (cell_far (p := ⟨gb149, 0, none⟩) (by first | (rw [add_block]; exact hn150_0) | (show (Addr.add _ _).block ≠ _; rw [add_block]; exact hn150_0) | exact hn150_0) (.int .i64 ((rd_T122 l0_1 x20_1).f0))).trans hx150_0
                        replace hx150_1 := (cell_far (p := ⟨gb149, 0, none⟩) (by first | (rw [add_block]; exact hn150_0) | (show (Addr.add _ _).block ≠ _; rw [add_block]; exact hn150_0) | exact hn150_0) (.int .i64 ((rd_T122 l0_1 x20_1).f0))).trans hx150_1
                        replace hx150_2 := (cell_far (p := ⟨gb149, 0, none⟩) (by first | (rw [add_block]; exact hn150_0) | (show (Addr.add _ _).block ≠ _; rw [add_block]; exact hn150_0) | exact hn150_0) (.int .i64 ((rd_T122 l0_1 x20_1).f0))).trans hx150_2
                        replace hx150_0 := (cell_far (p := ⟨gb149, 1, none⟩) (by first | (rw [add_block]; exact hn150_1) | (show (Addr.add _ _).block ≠ _; rw [add_block]; exact hn150_1) | exact hn150_1) (.int .i64 ((rd_T122 l0_1 x20_1).f1))).trans hx150_0
                        replace hx150_1 := (cell_far (p := ⟨gb149, 1, none⟩) (by first | (rw [add_block]; exact hn150_1) | (show (Addr.add _ _).block ≠ _; rw [add_block]; exact hn150_1) | exact hn150_1) (.int .i64 ((rd_T122 l0_1 x20_1).f1))).trans hx150_1
                        replace hx150_2 := (cell_far (p := ⟨gb149, 1, none⟩) (by first | (rw [add_block]; exact hn150_1) | (show (Addr.add _ _).block ≠ _; rw [add_block]; exact hn150_1) | exact hn150_1) (.int .i64 ((rd_T122 l0_1 x20_1).f1))).trans hx150_2
                        replace hx150_0 := (cell_far (p := ⟨gb149, 2, none⟩) (by first | (rw [add_block]; exact hn150_2) | (show (Addr.add _ _).block ≠ _; rw [add_block]; exact hn150_2) | exact hn150_2) (.int .i64 ((rd_T122 l0_1 x20_1).f2))).trans hx150_0
                        replace hx150_1 := (cell_far (p := ⟨gb149, 2, none⟩) (by first | (rw [add_block]; exact hn150_2) | (show (Addr.add _ _).block ≠ _; rw [add_block]; exact hn150_2) | exact hn150_2) (.int .i64 ((rd_T122 l0_1 x20_1).f2))).trans hx150_1
                        replace hx150_2 := (cell_far (p := ⟨gb149, 2, none⟩) (by first | (rw [add_block]; exact hn150_2) | (show (Addr.add _ _).block ≠ _; rw [add_block]; exact hn150_2) | exact hn150_2) (.int .i64 ((rd_T122 l0_1 x20_1).f2))).trans hx150_2
                        clear hn150_0
                        clear hn150_1
                        clear hn150_2
                        replace p150 := eq_true p150
                        replace q150 := eq_true q150
                        go_wp2
                        go_meet
                        case rel => exact ⟨_, ((rd_T122 l0_1 (ji17)).f1), (by first | rfl | (simp; done) | (simp only [← hji17] <;> (first | rfl | simp)) | (simp [*]; done)), H', ⟨by have := HK1.out; first | omega | exact Nat.le_refl _⟩, ⟨by (with_reducible repeat (first | refine blk_drewN ?_ _ | refine blk_drew ?_ | refine blk_alloc ?_ _)); refine blk_far ?_ NB146_149.out _; (with_reducible repeat (first | refine blk_drewN ?_ _ | refine blk_drew ?_ | refine blk_alloc ?_ _)); refine blk_far ?_ NB146_149.out _; (with_reducible repeat (first | refine blk_drewN ?_ _ | refine blk_drew ?_ | refine blk_alloc ?_ _)); refine blk_far ?_ NB146_149.out _; (with_reducible repeat (first | refine blk_drewN ?_ _ | refine blk_drew ?_ | refine blk_alloc ?_ _)); exact BK146.out⟩, ⟨by (with_reducible repeat (first | refine blk_drewN ?_ _ | refine blk_drew ?_ | refine blk_alloc ?_ _)); refine blk_put (cs := #[.int .i64 ((rd_T122 l0_1 x20_1).f0), .int .i64 ((rd_T122 l0_1 x20_1).f1), .int .i64 0]) ?_ 2 _ rfl; (with_reducible repeat (first | refine blk_drewN ?_ _ | refine blk_drew ?_ | refine blk_alloc ?_ _)); refine blk_put (cs := #[.int .i64 ((rd_T122 l0_1 x20_1).f0), .int .i64 0, .int .i64 0]) ?_ 1 _ rfl; (with_reducible repeat (first | refine blk_drewN ?_ _ | refine blk_drew ?_ | refine blk_alloc ?_ _)); refine blk_put (cs := #[.int .i64 0, .int .i64 0, .int .i64 0]) ?_ 0 _ rfl; (with_reducible repeat (first | refine blk_drewN ?_ _ | refine blk_drew ?_ | refine blk_alloc ?_ _)); exact BK149.out⟩, ⟨by repeat (first | (with_reducible first | exact HB.out | apply below_alloc | apply pw_below_drewN | apply below_drew1 | refine below_set ?_ GE146.out | refine below_set ?_ GE149.out) | exact HB.out)⟩⟩
                      · rw [if_neg c19] at H
                        exact absurd H (by simp)
                    · rw [if_neg c18] at H
                      exact absurd H (by simp)
                  · rw [if_neg c16] at H
                    have c16b0 : decide (0 < x20_1) = false := decide_eq_false c16
                    clear c16
                    (first | rw [c16b0] | (simp only [i64_w, i32_w]; rw [c16b0]) | skip)
                    have H' := Aside0.mk H
                    clear H
                    go_wp2
                    go_meet
                    case rel => exact ⟨_, (0), (by first | rfl | (simp; done) | (simp [*]; done)), H', ⟨by have := HK1.out; first | omega | exact Nat.le_refl _⟩, ⟨by (with_reducible repeat (first | refine blk_drewN ?_ _ | refine blk_drew ?_ | refine blk_alloc ?_ _)); refine blk_far ?_ NB146_149.out _; (with_reducible repeat (first | refine blk_drewN ?_ _ | refine blk_drew ?_ | refine blk_alloc ?_ _)); refine blk_far ?_ NB146_149.out _; (with_reducible repeat (first | refine blk_drewN ?_ _ | refine blk_drew ?_ | refine blk_alloc ?_ _)); refine blk_far ?_ NB146_149.out _; (with_reducible repeat (first | refine blk_drewN ?_ _ | refine blk_drew ?_ | refine blk_alloc ?_ _)); exact BK146.out⟩, ⟨by (with_reducible repeat (first | refine blk_drewN ?_ _ | refine blk_drew ?_ | refine blk_alloc ?_ _)); refine blk_put (cs := #[.int .i64 ((rd_T122 l0_1 x20_1).f0), .int .i64 ((rd_T122 l0_1 x20_1).f1), .int .i64 0]) ?_ 2 _ rfl; (with_reducible repeat (first | refine blk_drewN ?_ _ | refine blk_drew ?_ | refine blk_alloc ?_ _)); refine blk_put (cs := #[.int .i64 ((rd_T122 l0_1 x20_1).f0), .int .i64 0, .int .i64 0]) ?_ 1 _ rfl; (with_reducible repeat (first | refine blk_drewN ?_ _ | refine blk_drew ?_ | refine blk_alloc ?_ _)); refine blk_put (cs := #[.int .i64 0, .int .i64 0, .int .i64 0]) ?_ 0 _ rfl; (with_reducible repeat (first | refine blk_drewN ?_ _ | refine blk_drew ?_ | refine blk_alloc ?_ _)); exact BK149.out⟩, ⟨by repeat (first | (with_reducible first | exact HB.out | apply below_alloc | apply pw_below_drewN | apply below_drew1 | refine below_set ?_ GE146.out | refine below_set ?_ GE149.out) | exact HB.out)⟩⟩
                case rest =>
                  clear HC12
                  try clear c1
                  try clear p1
                  try clear q1
                  try clear hx1
                  try clear c2
                  try clear p2
                  try clear c3
                  try clear c3b0
                  try clear c3b1
                  try clear c4
                  try clear c4b0
                  try clear c4b1
                  try clear c5
                  try clear p6
                  try clear c9
                  try clear c9b0
                  try clear c10
                  try clear c10b0
                  try clear c11
                  try clear c11b0
                  try clear c14
                  try clear p14
                  try clear q14
                  try clear hx14
                  try clear p15
                  try clear q15
                  try clear hx15
                  try clear c16
                  try clear c16b0
                  try clear c18
                  try clear c18b0
                  try clear c19
                  try clear c19b0
                  try clear c20
                  try clear hcz15_0
                  try clear hcz15_1
                  try clear hcz15_2
                  try clear hcz21_0
                  try clear hcz21_1
                  try clear hcz6_0
                  try clear hcz6_1
                  try clear hcz8_0
                  try clear hcz8_1
                  try clear hfz15_0
                  try clear hfz15_1
                  try clear hfz15_2
                  try clear hfz21_0
                  try clear hfz21_1
                  try clear hfz6_0
                  try clear hfz6_1
                  try clear hfz8_0
                  try clear hfz8_1
                  try clear hx148_0
                  try clear hx148_1
                  try clear hx148_2
                  try clear hx150_0
                  try clear hx150_1
                  try clear hx150_2
                  try clear p148
                  try clear p150
                  try clear p2
                  try clear q148
                  try clear q150
                  obtain ⟨kq, x6_11, rfl, HA, HJ11, BK146, BK149, HB⟩ := hcut
                  cases kq with
                  | zero => exact absurd HA.out (by simp [bakeref2_SurfaceErr.j1])
                  | succ kj11 =>
                    have H := HA.out
                    clear HA
                    simp only [bakeref2_SurfaceErr.j1] at H
                    have HC22 := Aside0.mk H
                    clear H
                    go_upto_region 12 with (fail)
                    go_cut [52] (fun v52 wc => ∃ (kq : Nat) (x52_21 : Bool), v52 = .bool x52_21 ∧ Aside0 (bakeref2_SurfaceErr.j2 kq l0_1 (l0_1.length : Int) x20_1 x52_21 l0_0 l0_1 ((rd_T122 l0_1 x20_1).f0) ((rd_T122 l0_1 x20_1).f1) ((rd_T122 l0_1 x20_1).f2) = some r) ∧ Aside0 (kq ≤ kj11) ∧ Aside0 (wc.heap[gb146]? = some (.cells #[(.slice A0_0 l0_0.length c0_0), (.slice (some ad148) l0_1.length c0_1)] 73 (0, 0))) ∧ Aside0 (wc.heap[gb149]? = some (.cells #[.int .i64 ((rd_T122 l0_1 x20_1).f0), .int .i64 ((rd_T122 l0_1 x20_1).f1), .int .i64 ((rd_T122 l0_1 x20_1).f2)] 122 (0, 0))) ∧ Aside0 (Below w.heap.size w wc))
                    case first =>
                      have H := HC22.out
                      clear HC22
                      by_cases c23 : ((rd_T122 l0_1 x20_1).f0) < x6_11
                      · rw [if_pos c23] at H
                        have c23b0 : decide (((rd_T122 l0_1 x20_1).f0) < x6_11) = true := decide_eq_true c23
                        clear c23
                        (first | rw [c23b0] | (simp only [i64_w, i32_w]; rw [c23b0]) | skip)
                        have H' := Aside0.mk H
                        clear H
                        have hnb24 := NB149_146.out
                        have hnc24 := NB146_149.out
                        have hcz25_0 : wc.cell? ⟨gb149, 0, none⟩ = some (.int .i64 ((rd_T122 l0_1 x20_1).f0)) := (blk_cell BK149.out 0).trans rfl
                        have hcz25_1 : wc.cell? ⟨gb149, 1, none⟩ = some (.int .i64 ((rd_T122 l0_1 x20_1).f1)) := (blk_cell BK149.out 1).trans rfl
                        have hcz25_2 : wc.cell? ⟨gb149, 2, none⟩ = some (.int .i64 ((rd_T122 l0_1 x20_1).f2)) := (blk_cell BK149.out 2).trans rfl
                        have hfz25_0 := blk_frozen BK149.out 0
                        have hfz25_1 := blk_frozen BK149.out 1
                        have hfz25_2 := blk_frozen BK149.out 2
                        go_wp2
                        go_meet
                        case rel => exact ⟨_, (true), (by first | rfl | (simp; done) | (simp [*]; done)), H', ⟨by have := HK1.out; have := HJ11.out; first | omega | exact Nat.le_refl _⟩, ⟨by (with_reducible repeat (first | refine blk_drewN ?_ _ | refine blk_drew ?_ | refine blk_alloc ?_ _)); exact BK146.out⟩, ⟨by (with_reducible repeat (first | refine blk_drewN ?_ _ | refine blk_drew ?_ | refine blk_alloc ?_ _)); exact BK149.out⟩, ⟨by repeat (first | (with_reducible first | exact HB.out | apply below_alloc | apply pw_below_drewN | apply below_drew1 | refine below_set ?_ GE146.out | refine below_set ?_ GE149.out) | exact HB.out)⟩⟩
                      · rw [if_neg c23] at H
                        have c23b0 : decide (((rd_T122 l0_1 x20_1).f0) < x6_11) = false := decide_eq_false c23
                        clear c23
                        (first | rw [c23b0] | (simp only [i64_w, i32_w]; rw [c23b0]) | skip)
                        by_cases c26 : ((rd_T122 l0_1 x20_1).f1) < ((rd_T122 l0_1 x20_1).f0)
                        · rw [if_pos c26] at H
                          have c26b0 : decide (((rd_T122 l0_1 x20_1).f1) < ((rd_T122 l0_1 x20_1).f0)) = true := decide_eq_true c26
                          clear c26
                          have H' := Aside0.mk H
                          clear H
                          have hnb27 := NB149_146.out
                          have hnc27 := NB146_149.out
                          have hcz28_0 : wc.cell? ⟨gb149, 0, none⟩ = some (.int .i64 ((rd_T122 l0_1 x20_1).f0)) := (blk_cell BK149.out 0).trans rfl
                          have hcz28_1 : wc.cell? ⟨gb149, 1, none⟩ = some (.int .i64 ((rd_T122 l0_1 x20_1).f1)) := (blk_cell BK149.out 1).trans rfl
                          have hcz28_2 : wc.cell? ⟨gb149, 2, none⟩ = some (.int .i64 ((rd_T122 l0_1 x20_1).f2)) := (blk_cell BK149.out 2).trans rfl
                          have hfz28_0 := blk_frozen BK149.out 0
                          have hfz28_1 := blk_frozen BK149.out 1
                          have hfz28_2 := blk_frozen BK149.out 2
                          go_wp2
                          go_meet
                          case rel => exact ⟨_, (true), (by first | rfl | (simp; done) | (simp [*]; done)), H', ⟨by have := HK1.out; have := HJ11.out; first | omega | exact Nat.le_refl _⟩, ⟨by (with_reducible repeat (first | refine blk_drewN ?_ _ | refine blk_drew ?_ | refine blk_alloc ?_ _)); exact BK146.out⟩, ⟨by (with_reducible repeat (first | refine blk_drewN ?_ _ | refine blk_drew ?_ | refine blk_alloc ?_ _)); exact BK149.out⟩, ⟨by repeat (first | (with_reducible first | exact HB.out | apply below_alloc | apply pw_below_drewN | apply below_drew1 | refine below_set ?_ GE146.out | refine below_set ?_ GE149.out) | exact HB.out)⟩⟩
                        · rw [if_neg c26] at H
                          have c26b0 : decide (((rd_T122 l0_1 x20_1).f1) < ((rd_T122 l0_1 x20_1).f0)) = false := decide_eq_false c26
                          clear c26
                          have H' := Aside0.mk H
                          clear H
                          have hnb29 := NB149_146.out
                          have hnc29 := NB146_149.out
                          have hcz30_0 : wc.cell? ⟨gb149, 0, none⟩ = some (.int .i64 ((rd_T122 l0_1 x20_1).f0)) := (blk_cell BK149.out 0).trans rfl
                          have hcz30_1 : wc.cell? ⟨gb149, 1, none⟩ = some (.int .i64 ((rd_T122 l0_1 x20_1).f1)) := (blk_cell BK149.out 1).trans rfl
                          have hcz30_2 : wc.cell? ⟨gb149, 2, none⟩ = some (.int .i64 ((rd_T122 l0_1 x20_1).f2)) := (blk_cell BK149.out 2).trans rfl
                          have hfz30_0 := blk_frozen BK149.out 0
                          have hfz30_1 := blk_frozen BK149.out 1
                          have hfz30_2 := blk_frozen BK149.out 2
                          have hcz31_0 : wc.cell? ⟨gb146, 0, none⟩ = some (.slice A0_0 l0_0.length c0_0) := (blk_cell BK146.out 0).trans rfl
                          have hcz31_1 : wc.cell? ⟨gb146, 1, none⟩ = some (.slice (some ad148) l0_1.length c0_1) := (blk_cell BK146.out 1).trans rfl
                          have hfz31_0 := blk_frozen BK146.out 0
                          have hfz31_1 := blk_frozen BK146.out 1
                          go_wp2
                          go_meet
                          case rel => exact ⟨_, (decide (((rd_T122 l0_1 x20_1).f1) > (l0_0.length : Int))), (by first | rfl | (simp; done) | (simp [*]; done)), H', ⟨by have := HK1.out; have := HJ11.out; first | omega | exact Nat.le_refl _⟩, ⟨by (with_reducible repeat (first | refine blk_drewN ?_ _ | refine blk_drew ?_ | refine blk_alloc ?_ _)); exact BK146.out⟩, ⟨by (with_reducible repeat (first | refine blk_drewN ?_ _ | refine blk_drew ?_ | refine blk_alloc ?_ _)); exact BK149.out⟩, ⟨by repeat (first | (with_reducible first | exact HB.out | apply below_alloc | apply pw_below_drewN | apply below_drew1 | refine below_set ?_ GE146.out | refine below_set ?_ GE149.out) | exact HB.out)⟩⟩
                    case rest =>
                      clear HC22
                      try clear c1
                      try clear p1
                      try clear q1
                      try clear hx1
                      try clear c2
                      try clear p2
                      try clear c3
                      try clear c3b0
                      try clear c3b1
                      try clear c4
                      try clear c4b0
                      try clear c4b1
                      try clear c5
                      try clear p6
                      try clear c9
                      try clear c9b0
                      try clear c10
                      try clear c10b0
                      try clear c11
                      try clear c11b0
                      try clear c14
                      try clear p14
                      try clear q14
                      try clear hx14
                      try clear p15
                      try clear q15
                      try clear hx15
                      try clear c16
                      try clear c16b0
                      try clear c18
                      try clear c18b0
                      try clear c19
                      try clear c19b0
                      try clear c20
                      try clear c23
                      try clear c23b0
                      try clear c24
                      try clear c26
                      try clear c26b0
                      try clear c27
                      try clear c29
                      try clear hcz15_0
                      try clear hcz15_1
                      try clear hcz15_2
                      try clear hcz21_0
                      try clear hcz21_1
                      try clear hcz25_0
                      try clear hcz25_1
                      try clear hcz25_2
                      try clear hcz28_0
                      try clear hcz28_1
                      try clear hcz28_2
                      try clear hcz30_0
                      try clear hcz30_1
                      try clear hcz30_2
                      try clear hcz31_0
                      try clear hcz31_1
                      try clear hcz6_0
                      try clear hcz6_1
                      try clear hcz8_0
                      try clear hcz8_1
                      try clear hfz15_0
                      try clear hfz15_1
                      try clear hfz15_2
                      try clear hfz21_0
                      try clear hfz21_1
                      try clear hfz25_0
                      try clear hfz25_1
                      try clear hfz25_2
                      try clear hfz28_0
                      try clear hfz28_1
                      try clear hfz28_2
                      try clear hfz30_0
                      try clear hfz30_1
                      try clear hfz30_2
                      try clear hfz31_0
                      try clear hfz31_1
                      try clear hfz6_0
                      try clear hfz6_1
                      try clear hfz8_0
                      try clear hfz8_1
                      try clear hx148_0
                      try clear hx148_1
                      try clear hx148_2
                      try clear hx150_0
                      try clear hx150_1
                      try clear hx150_2
                      try clear p1
                      try clear p14
                      try clear p148
                      try clear p15
                      try clear p150
                      try clear p2
                      try clear p6
                      try clear q1
                      try clear q14
                      try clear q148
                      try clear q15
                      try clear q150
                      obtain ⟨kq, x52_21, rfl, HA, HJ21, BK146, BK149, HB⟩ := hcut
                      cases kq with
                      | zero => exact absurd HA.out (by simp [bakeref2_SurfaceErr.j2])
                      | succ kj21 =>
                        have H := HA.out
                        clear HA
                        simp only [bakeref2_SurfaceErr.j2] at H
                        by_cases c32 : x52_21 = true
                        · subst c32
                          have H1 : (some 9) = some r := by rw [if_pos rfl] at H; exact H
                          clear H
                          have H := H1
                          clear H1
                          obtain rfl := Option.some.inj H
                          go_wp2
                          go_ret
                          exact ⟨by first | rfl | (simp [errW_none, errW_some] <;> rfl) | (simp [*, errW_none, errW_some] <;> rfl), by repeat (first | (with_reducible first | exact HB.out | apply below_alloc | apply pw_below_drewN | apply below_drew1 | refine below_set ?_ GE146.out | refine below_set ?_ GE149.out) | exact HB.out)⟩
                        · replace c32 := Bool.eq_false_iff.mpr c32
                          subst c32
                          have H1 : (if ((rd_T122 l0_1 x20_1).f2) < 0 then (some 1) else (if ((rd_T122 l0_1 x20_1).f2) > 100000 then (some 1) else (bakeref2_SurfaceErr.l0 kj21 l0_1 (l0_1.length : Int) (wrap64 (x20_1 + 1)) l0_0 l0_1))) = some r := by rw [if_neg (show ¬ (false = true) by decide)] at H; exact H
                          clear H
                          have H := H1
                          clear H1
                          by_cases c33 : ((rd_T122 l0_1 x20_1).f2) < 0
                          · rw [if_pos c33] at H
                            have c33b0 : decide (((rd_T122 l0_1 x20_1).f2) < 0) = true := decide_eq_true c33
                            clear c33
                            obtain rfl := Option.some.inj H
                            have hnb34 := NB149_146.out
                            have hnc34 := NB146_149.out
                            have hcz35_0 : wc.cell? ⟨gb149, 0, none⟩ = some (.int .i64 ((rd_T122 l0_1 x20_1).f0)) := (blk_cell BK149.out 0).trans rfl
                            have hcz35_1 : wc.cell? ⟨gb149, 1, none⟩ = some (.int .i64 ((rd_T122 l0_1 x20_1).f1)) := (blk_cell BK149.out 1).trans rfl
                            have hcz35_2 : wc.cell? ⟨gb149, 2, none⟩ = some (.int .i64 ((rd_T122 l0_1 x20_1).f2)) := (blk_cell BK149.out 2).trans rfl
                            have hfz35_0 := blk_frozen BK149.out 0
                            have hfz35_1 := blk_frozen BK149.out 1
                            have hfz35_2 := blk_frozen BK149.out 2
                            go_wp2
                            go_ret
                            exact ⟨by first | rfl | (simp [errW_none, errW_some] <;> rfl) | (simp [*, errW_none, errW_some] <;> rfl), by repeat (first | (with_reducible first | exact HB.out | apply below_alloc | apply pw_below_drewN | apply below_drew1 | refine below_set ?_ GE146.out | refine below_set ?_ GE149.out) | exact HB.out)⟩
                          · rw [if_neg c33] at H
                            have c33b0 : decide (((rd_T122 l0_1 x20_1).f2) < 0) = false := decide_eq_false c33
                            clear c33
                            by_cases c36 : ((rd_T122 l0_1 x20_1).f2) > 100000
                            · rw [if_pos c36] at H
                              have c36b0 : decide (100000 < ((rd_T122 l0_1 x20_1).f2)) = true := decide_eq_true c36
                              clear c36
                              obtain rfl := Option.some.inj H
                              have hnb37 := NB149_146.out
                              have hnc37 := NB146_149.out
                              have hcz38_0 : wc.cell? ⟨gb149, 0, none⟩ = some (.int .i64 ((rd_T122 l0_1 x20_1).f0)) := (blk_cell BK149.out 0).trans rfl
                              have hcz38_1 : wc.cell? ⟨gb149, 1, none⟩ = some (.int .i64 ((rd_T122 l0_1 x20_1).f1)) := (blk_cell BK149.out 1).trans rfl
                              have hcz38_2 : wc.cell? ⟨gb149, 2, none⟩ = some (.int .i64 ((rd_T122 l0_1 x20_1).f2)) := (blk_cell BK149.out 2).trans rfl
                              have hfz38_0 := blk_frozen BK149.out 0
                              have hfz38_1 := blk_frozen BK149.out 1
                              have hfz38_2 := blk_frozen BK149.out 2
                              go_wp2
                              go_ret
                              exact ⟨by first | rfl | (simp [errW_none, errW_some] <;> rfl) | (simp [*, errW_none, errW_some] <;> rfl), by repeat (first | (with_reducible first | exact HB.out | apply below_alloc | apply pw_below_drewN | apply below_drew1 | refine below_set ?_ GE146.out | refine below_set ?_ GE149.out) | exact HB.out)⟩
                            · rw [if_neg c36] at H
                              have c36b0 : decide (100000 < ((rd_T122 l0_1 x20_1).f2)) = false := decide_eq_false c36
                              clear c36
                              have H' := Aside0.mk H
                              clear H
                              have hnb39 := NB149_146.out
                              have hnc39 := NB146_149.out
                              have hcz40_0 : wc.cell? ⟨gb149, 0, none⟩ = some (.int .i64 ((rd_T122 l0_1 x20_1).f0)) := (blk_cell BK149.out 0).trans rfl
                              have hcz40_1 : wc.cell? ⟨gb149, 1, none⟩ = some (.int .i64 ((rd_T122 l0_1 x20_1).f1)) := (blk_cell BK149.out 1).trans rfl
                              have hcz40_2 : wc.cell? ⟨gb149, 2, none⟩ = some (.int .i64 ((rd_T122 l0_1 x20_1).f2)) := (blk_cell BK149.out 2).trans rfl
                              have hfz40_0 := blk_frozen BK149.out 0
                              have hfz40_1 := blk_frozen BK149.out 1
                              have hfz40_2 := blk_frozen BK149.out 2
                              go_wp2
                              go_roundg kj21
                              case measure => have := HK1.out; have := HJ11.out; have := HJ21.out; omega
                              case rel => exact ⟨(wrap64 (x20_1 + 1)), (by first | rfl | (simp; done) | (simp [*]; done)), H', ⟨by have := HK1.out; have := HJ11.out; have := HJ21.out; omega⟩, ⟨by (with_reducible repeat (first | refine blk_drewN ?_ _ | refine blk_drew ?_ | refine blk_alloc ?_ _)); exact BK146.out⟩, ⟨by repeat (first | (with_reducible first | exact HB.out | apply below_alloc | apply pw_below_drewN | apply below_drew1 | refine below_set ?_ GE146.out | refine below_set ?_ GE149.out) | exact HB.out)⟩⟩
              · rw [if_neg c11] at H
                exact absurd H (by simp)
            · rw [if_neg c10] at H
              exact absurd H (by simp)
          · rw [if_neg c9] at H
            have c9b0 : decide (x20_1 < (l0_1.length : Int)) = false := decide_eq_false c9
            clear c9
            obtain rfl := Option.some.inj H
            go_wp2
            go_ret
            exact ⟨by first | rfl | (simp [errW_none, errW_some] <;> rfl) | (simp [*, errW_none, errW_some] <;> rfl), by repeat (first | (with_reducible first | exact HB.out | apply below_alloc | apply pw_below_drewN | apply below_drew1 | refine below_set ?_ GE146.out) | exact HB.out)⟩
  · rw [if_neg c3] at H
    have c3b0 : (t147 == 0) = false := beq_eq_false_iff_ne.mpr c3
    have c3b1 : (t147 != 0) = true := bne_iff_ne.mpr c3
    obtain rfl := Option.some.inj H
    go_enter Try.func56, Try.ntmps56
    go_wp2_with (first | ((with_reducible refine gate_dst (N := 1) rfl ?_); (try (refine gate_guard (by rfl) ?_; dsimp only)); refine box_event ?hg (N := 1) ?hd (cs := #[.slice A0_0 l0_0.length c0_0, .slice A0_1 l0_1.length c0_1]) (t := 73) ?hr ?_; (case hd => rfl); (case hg => rfl); (case hr => first | (go_simp; done) | (go_simp; rfl)); intro gb146 hg w41 hbox hb; have n0_ := Aside0.mk (below_step (by repeat (first | (with_reducible first | exact HB.out | apply below_alloc | apply pw_below_drewN | apply below_drew1) | exact HB.out)) hb); have n1_ := Aside0.mk (hbox); have n2_ := Aside0.mk ((by rw [hg]; exact (below_size (by repeat (first | (with_reducible first | exact HB.out | apply below_alloc | apply pw_below_drewN | apply below_drew1) | exact HB.out))) : w.heap.size ≤ gb146)); have n3_ := Aside0.mk ((by rw [hg]; exact (below_size (by repeat (first | (with_reducible first | exact HB.out | apply below_alloc | apply pw_below_drewN | apply below_drew1) | exact HB.out))) : w.heap.size ≤ gb146)); clear HB; have HB := n0_; have BK146 := n1_; have GW146 := n2_; have GE146 := n3_; clear n0_ n1_ n2_ n3_; clear hb hbox hg; have hcz42_0 : w41.cell? ⟨gb146, 0, none⟩ = some (.slice A0_0 l0_0.length c0_0) := (blk_cell BK146.out 0).trans rfl; have hcz42_1 : w41.cell? ⟨gb146, 1, none⟩ = some (.slice A0_1 l0_1.length c0_1) := (blk_cell BK146.out 1).trans rfl; have hfz42_0 := blk_frozen BK146.out 0; have hfz42_1 := blk_frozen BK146.out 1) | ((with_reducible refine gate_callee (f := 32) rfl ?_); refine goesL_ (some 9) rfl rfl Try.func32 (by kernel_rfl) rfl #[.slice A0_0 l0_0.length c0_0] rfl (by (try simp only [List.map_toArray, List.map_cons, List.map_nil]); first | done | rfl | (simp only [List.length_drop, List.length_take]; rfl)) ?_; (with_reducible refine (bakeref2_TrackErr.calls k _ _ l0_0 t147 _ ?side1 ?side2 A2.out).mono ?_); (case side1 => repeat (first | exact (Kd.C_below HR0_0.out HB.out) | (with_reducible refine Kd.C_alloc ?_ _) | (with_reducible refine Kd.C_drewN ?_ _) | (with_reducible refine Kd.C_drew ?_))); (case side2 => exact HC0_0.out); rintro e w' ⟨rfl, ⟨nd, rfl⟩⟩; refine ⟨_, rfl, ?_⟩))
    go_ret
    exact ⟨by first | rfl | (simp [errW_none, errW_some] <;> rfl) | (simp [*, errW_none, errW_some] <;> rfl), by repeat (first | (with_reducible first | exact HB.out | apply below_alloc | apply pw_below_drewN | apply below_drew1 | refine below_set ?_ GE146.out) | exact HB.out)⟩

end Go.Proofs.Ytgiodeiibmbhhaa.PWeakReads
