-- Written by this session's own program (wip/mp, over the kit's print) for this claim; Lean checks it.
import Derived.Test.YtgiodeiibmbhhaaPWeakShowsx0
namespace Go.Proofs.Ytgiodeiibmbhhaa.PWeakShows
open Go.RowKit Go.Proofs.YtgiodeiibmbhhaaW.PrintWords Go.Proofs.YtgiodeiibmbhhaaW.PrintLast Go.Proofs.YtgiodeiibmbhhaaW.PrintMore
attribute [local go_sem] max2_int min2_int max_two min_two max_three min_three max_four min_four   -- for this text's walks alone
set_option linter.unusedVariables false
set_option linter.unusedSimpArgs false

/-! ### slices_Equal_byte_byte: function 22 -/
def slices_Equal_byte_byte.l0 : Nat → List Int → List Int → Int → Int → Option (Bool)
  | 0, _, _, _, _ => none
  | k + 1, x0, x1, x12, x13 => if x13 < x12 then (if 0 ≤ x13 then (if x13 < (x0.length : Int) then (if x13 < (x1.length : Int) then (if (rd x0 x13) = (rd x1 x13) then (slices_Equal_byte_byte.l0 k x0 x1 x12 (wrap64 (x13 + 1))) else (some false)) else (none)) else (none)) else (none)) else (some true)
def slices_Equal_byte_byte.f (k : Nat) (l0 : List Int) (l1 : List Int) : Option (Bool) := if (l0.length : Int) = (l1.length : Int) then (slices_Equal_byte_byte.l0 k l0 l1 (l0.length : Int) 0) else (some false)
theorem slices_Equal_byte_byte.mono_l : ∀ k, (∀ y0 y1 y2 y3, LeO (slices_Equal_byte_byte.l0 k y0 y1 y2 y3) (slices_Equal_byte_byte.l0 (k + 1) y0 y1 y2 y3))
  | 0 => fun _ _ _ _ r h => by simp [slices_Equal_byte_byte.l0] at h
  | k + 1 => by
    have ih0 := slices_Equal_byte_byte.mono_l k
    · intro y0 y1 y2 y3
      unfold slices_Equal_byte_byte.l0
      repeat' first
      | (with_reducible exact ih0 _ _ _ _)
      | (with_reducible exact LeO.refl _)
      | (with_reducible exact LeO.none _)
      | (with_reducible refine LeO.ite ?_ ?_)
      | (with_reducible refine LeO.bind ?_ (fun _ => ?_))
      | exact ih0 _ _ _ _
      | exact LeO.none _
      | refine LeO.ite ?_ ?_
      | refine LeO.bind ?_ (fun _ => ?_)
theorem slices_Equal_byte_byte.mono : ∀ a0 a1 k, LeO (slices_Equal_byte_byte.f k a0 a1) (slices_Equal_byte_byte.f (k + 1) a0 a1) := by
  intro a0 a1 k
  have ih0 := slices_Equal_byte_byte.mono_l k
  unfold slices_Equal_byte_byte.f
  repeat' first
      | (with_reducible exact ih0 _ _ _ _)
      | (with_reducible exact LeO.refl _)
      | (with_reducible exact LeO.none _)
      | (with_reducible refine LeO.ite ?_ ?_)
      | (with_reducible refine LeO.bind ?_ (fun _ => ?_))
      | exact ih0 _ _ _ _
      | exact LeO.none _
      | refine LeO.ite ?_ ?_
      | refine LeO.bind ?_ (fun _ => ?_)
set_option maxHeartbeats 8000000 in
set_option maxRecDepth 100000 in
theorem slices_Equal_byte_byte.calls (k : Nat) (A0 : Option Addr) (c0 : Nat) (l0 : List Int) (A1 : Option Addr) (c1 : Nat) (l1 : List Int) (r : Bool) (w : World) (hr0 : Kd.C (Kd.int .u8) w A0 l0.length l0) (hc0 : l0.length ≤ c0) (hr1 : Kd.C (Kd.int .u8) w A1 l1.length l1) (hc1 : l1.length ≤ c1) (h : slices_Equal_byte_byte.f k l0 l1 = some r) :
    Calls Try.prog 22 #[.slice A0 l0.length c0, .slice A1 l1.length c1] w fun e w' => e = .returned (.bool r) ∧ Drawn0 w w' := by
  have HR0 := Aside0.mk hr0
  have HC0 := Aside0.mk hc0
  clear hr0 hc0
  have HR1 := Aside0.mk hr1
  have HC1 := Aside0.mk hc1
  clear hr1 hc1
  have H : (if (l0.length : Int) = (l1.length : Int) then (slices_Equal_byte_byte.l0 k l0 l1 (l0.length : Int) 0) else (some false)) = some r := h
  clear h
  by_cases c3 : (l0.length : Int) = (l1.length : Int)
  · rw [if_pos c3] at H
    have c3b0 : ((l0.length : Int) == (l1.length : Int)) = true := beq_iff_eq.mpr c3
    have c3b1 : ((l0.length : Int) != (l1.length : Int)) = false := bne_eq_false_iff_eq.mpr c3
    have c3b2 : (l0.length == l1.length) = true := by first | simpa using c3 | (simp at c3 ⊢; omega)
    clear c3
    have H' := Aside0.mk H
    clear H
    go_enter Try.func22, Try.ntmps22
    go_wp2
    repeat (go_quiet (fail); try go_wp2)
    go_loopg [13] k (fun kq v13 w' => ∃ (x13_1 : Int), v13 = .int .i64 x13_1 ∧ Aside0 (slices_Equal_byte_byte.l0 kq l0 l1 (l0.length : Int) x13_1 = some r) ∧ Aside0 (kq ≤ k) ∧ Drawn0 w w')
    case atStart => exact ⟨(0), (by first | rfl | (simp; done) | (simp [*]; done)), H', ⟨Nat.le_refl _⟩, by repeat (first | exact Drawn0.refl _ | apply Drawn0.step)⟩
    case round =>
      clear H'
      try clear c1
      try clear c2
      try clear p2
      try clear c3
      try clear c3b0
      try clear c3b1
      try clear c3b2
      obtain ⟨x13_1, rfl, HA, HK1, ⟨m1, rfl⟩⟩ := hrel
      cases gk with
      | zero => exact absurd HA.out (by simp [slices_Equal_byte_byte.l0])
      | succ k1 =>
        have H := HA.out
        clear HA
        simp only [slices_Equal_byte_byte.l0] at H
        by_cases c4 : x13_1 < (l0.length : Int)
        · rw [if_pos c4] at H
          have c4b0 : decide (x13_1 < (l0.length : Int)) = true := decide_eq_true c4
          clear c4
          by_cases c5 : 0 ≤ x13_1
          · rw [if_pos c5] at H
            have c5b0 : decide (0 ≤ x13_1) = true := decide_eq_true c5
            clear c5
            by_cases c6 : x13_1 < (l0.length : Int)
            · rw [if_pos c6] at H
              have c6b0 : decide (x13_1 < (l0.length : Int)) = true := decide_eq_true c6
              clear c6
              by_cases c7 : x13_1 < (l1.length : Int)
              · rw [if_pos c7] at H
                have c7b0 : decide (x13_1 < (l1.length : Int)) = true := decide_eq_true c7
                clear c7
                by_cases c8 : (rd l0 x13_1) = (rd l1 x13_1)
                · rw [if_pos c8] at H
                  have c8b0 : ((rd l0 x13_1) == (rd l1 x13_1)) = true := beq_iff_eq.mpr c8
                  have c8b1 : ((rd l0 x13_1) != (rd l1 x13_1)) = false := bne_eq_false_iff_eq.mpr c8
                  clear c8
                  have H' := Aside0.mk H
                  clear H
                  have p101 : 0 ≤ (x13_1 : Int) := of_decide_eq_true (by first | (with_reducible assumption) | assumption)
                  have q101 : x13_1 < (l0.length : Int) := of_decide_eq_true (by first | (with_reducible assumption) | assumption)
                  obtain ⟨ad101, e101, hx101_0⟩ := Kd.at_int HR0.out x13_1 p101 q101
                  cases e101
                  replace p101 := eq_true p101
                  replace q101 := eq_true q101
                  have p102 : 0 ≤ (x13_1 : Int) := of_decide_eq_true (by first | (with_reducible assumption) | assumption)
                  have q102 : x13_1 < (l1.length : Int) := of_decide_eq_true (by first | (with_reducible assumption) | assumption)
                  obtain ⟨ad102, e102, hx102_0⟩ := Kd.at_int HR1.out x13_1 p102 q102
                  cases e102
                  replace p102 := eq_true p102
                  replace q102 := eq_true q102
                  go_wp2
                  repeat (go_quiet (fail); try go_wp2)
                  go_roundg k1
                  case measure => have := HK1.out; omega
                  case rel => exact ⟨(wrap64 (x13_1 + 1)), (by first | rfl | (simp; done) | (simp [*]; done)), H', ⟨by have := HK1.out; omega⟩, by repeat (first | exact Drawn0.refl _ | apply Drawn0.step)⟩
                · rw [if_neg c8] at H
                  have c8b0 : ((rd l0 x13_1) == (rd l1 x13_1)) = false := beq_eq_false_iff_ne.mpr c8
                  have c8b1 : ((rd l0 x13_1) != (rd l1 x13_1)) = true := bne_iff_ne.mpr c8
                  obtain rfl := Option.some.inj H
                  have p101 : 0 ≤ (x13_1 : Int) := of_decide_eq_true (by first | (with_reducible assumption) | assumption)
                  have q101 : x13_1 < (l0.length : Int) := of_decide_eq_true (by first | (with_reducible assumption) | assumption)
                  obtain ⟨ad101, e101, hx101_0⟩ := Kd.at_int HR0.out x13_1 p101 q101
                  cases e101
                  replace p101 := eq_true p101
                  replace q101 := eq_true q101
                  have p102 : 0 ≤ (x13_1 : Int) := of_decide_eq_true (by first | (with_reducible assumption) | assumption)
                  have q102 : x13_1 < (l1.length : Int) := of_decide_eq_true (by first | (with_reducible assumption) | assumption)
                  obtain ⟨ad102, e102, hx102_0⟩ := Kd.at_int HR1.out x13_1 p102 q102
                  cases e102
                  replace p102 := eq_true p102
                  replace q102 := eq_true q102
                  go_wp2
                  repeat (go_quiet (fail); try go_wp2)
                  go_ret
                  exact ⟨by first | rfl | (simp; done) | (simp [*]; done), by repeat (first | exact Drawn0.refl _ | apply Drawn0.step)⟩
              · rw [if_neg c7] at H
                exact absurd H (by simp)
            · rw [if_neg c6] at H
              exact absurd H (by simp)
          · rw [if_neg c5] at H
            exact absurd H (by simp)
        · rw [if_neg c4] at H
          have c4b0 : decide (x13_1 < (l0.length : Int)) = false := decide_eq_false c4
          clear c4
          obtain rfl := Option.some.inj H
          go_wp2
          repeat (go_quiet (fail); try go_wp2)
          go_ret
          exact ⟨by first | rfl | (simp; done) | (simp [*]; done), by repeat (first | exact Drawn0.refl _ | apply Drawn0.step)⟩
  · rw [if_neg c3] at H
    have c3b0 : ((l0.length : Int) == (l1.length : Int)) = false := beq_eq_false_iff_ne.mpr c3
    have c3b1 : ((l0.length : Int) != (l1.length : Int)) = true := bne_iff_ne.mpr c3
    have c3b2 : (l0.length == l1.length) = false := by first | simpa using c3 | (simp at c3 ⊢; omega)
    obtain rfl := Option.some.inj H
    go_enter Try.func22, Try.ntmps22
    go_wp2
    repeat (go_quiet (fail); try go_wp2)
    go_ret
    exact ⟨by first | rfl | (simp; done) | (simp [*]; done), by repeat (first | exact Drawn0.refl _ | apply Drawn0.step)⟩

-- NOT PRINTED: function 115 (slices_IndexFunc_api_SectorData_api_SectorData_115)

-- NOT PRINTED: function 83 (slices_ContainsFunc_api_SectorData_api_SectorData_83)

/-! ### weak_found: function 86 -/
def weak_found.l0 : Nat → Int → List (S107) → List (S107) → Int → Int → Option ((List (S107)))
  | 0, _, _, _, _, _ => none
  | k + 1, x1, x5, x8, x9, x10 => if x10 < x9 then (if 0 ≤ x10 then (if x10 < (x8.length : Int) then (if ((rd_T107 x8 x10).f1) = x1 then (if x5.length < 2932031007402 then (weak_found.l0 k x1 (x5 ++ [(⟨(rd_T107 x8 x10).f0, (rd_T107 x8 x10).f1, (rd_T107 x8 x10).f2, (rd_T107 x8 x10).f3⟩ : S107)]) x8 x9 (wrap64 (x10 + 1))) else (none)) else (weak_found.l0 k x1 x5 x8 x9 (wrap64 (x10 + 1)))) else (none)) else (none)) else (some x5)
def weak_found.f (k : Nat) (l0 : List (S107)) (a1 : Int) : Option ((List (S107))) := weak_found.l0 k a1 ([] : List (S107)) l0 (l0.length : Int) 0
theorem weak_found.mono_l : ∀ k, (∀ y0 y1 y2 y3 y4, LeO (weak_found.l0 k y0 y1 y2 y3 y4) (weak_found.l0 (k + 1) y0 y1 y2 y3 y4))
  | 0 => fun _ _ _ _ _ r h => by simp [weak_found.l0] at h
  | k + 1 => by
    have ih0 := weak_found.mono_l k
    · intro y0 y1 y2 y3 y4
      unfold weak_found.l0
      repeat' first
      | (with_reducible exact ih0 _ _ _ _ _)
      | (with_reducible exact LeO.refl _)
      | (with_reducible exact LeO.none _)
      | (with_reducible refine LeO.ite ?_ ?_)
      | (with_reducible refine LeO.bind ?_ (fun _ => ?_))
      | exact ih0 _ _ _ _ _
      | exact LeO.none _
      | refine LeO.ite ?_ ?_
      | refine LeO.bind ?_ (fun _ => ?_)
theorem weak_found.mono : ∀ a0 a1 k, LeO (weak_found.f k a0 a1) (weak_found.f (k + 1) a0 a1) := by
  intro a0 a1 k
  have ih0 := weak_found.mono_l k
  unfold weak_found.f
  repeat' first
      | (with_reducible exact ih0 _ _ _ _ _)
      | (with_reducible exact LeO.refl _)
      | (with_reducible exact LeO.none _)
      | (with_reducible refine LeO.ite ?_ ?_)
      | (with_reducible refine LeO.bind ?_ (fun _ => ?_))
      | exact ih0 _ _ _ _ _
      | exact LeO.none _
      | refine LeO.ite ?_ ?_
      | refine LeO.bind ?_ (fun _ => ?_)
set_option maxHeartbeats 8000000 in
set_option maxRecDepth 100000 in
theorem weak_found.calls (k : Nat) (P0_ : Nat → Prop) (A0 : Option Addr) (c0 : Nat) (l0 : List (S107)) (a1 : Int) (r : List (S107)) (w : World) (hs0 : Kd.V k107 107 w w.heap.size (fun k_ => P0_ k_) (.slice A0 l0.length c0) l0) (h : weak_found.f k l0 a1 = some r) :
    Calls Try.prog 86 #[.slice A0 l0.length c0, .int .i64 a1] w fun e w' => ∃ v0_ : Value, e = .returned (v0_) ∧ Kd.N k107 107 w' w.heap.size (fun k_ => (P0_ k_ ∨ w.heap.size ≤ k_)) v0_ r ∧ Below w.heap.size w w' := by
  have hu107 := Try.underlying107
  have HO0 := Aside0.mk (show Kd.V k107 107 w w.heap.size (fun k_ => (P0_ k_ ∨ w.heap.size ≤ k_)) (.slice A0 l0.length c0) l0 from Kd.V_mono hs0 (fun k_ hk => .inl hk))
  have HB := Aside0.mk (Below.refl w.heap.size w)
  have H : (weak_found.l0 k a1 ([] : List (S107)) l0 (l0.length : Int) 0) = some r := h
  clear h
  have H' := Aside0.mk H
  clear H
  go_enter Try.func86, Try.ntmps86
  go_wp2
  go_loopg [5, 10] k (fun kq v5 v10 w' => ∃ (x5_1 : List (S107)) (x10_1 : Int), v10 = .int .i64 x10_1 ∧ Aside0 (weak_found.l0 kq a1 x5_1 l0 (l0.length : Int) x10_1 = some r) ∧ Aside0 (kq ≤ k) ∧ Aside0 (Kd.N k107 107 w' w.heap.size (fun k_ => (P0_ k_ ∨ w.heap.size ≤ k_)) v5 x5_1) ∧ Aside0 (Kd.V k107 107 w' w.heap.size (fun k_ => (P0_ k_ ∨ w.heap.size ≤ k_) ∧ some k_ ≠ (v5 : Value).ownBlock) (.slice A0 l0.length c0) l0) ∧ Aside0 (Below w.heap.size w w'))
  case atStart => exact ⟨(([] : List (S107))), (0), (by first | rfl | (simp; done) | (simp [*]; done)), H', ⟨Nat.le_refl _⟩, ⟨by first | exact Kd.S_nil _ _ _ _ _ | exact Kd.N_nil _ _ _ _ _ | exact Kd.V_nil _ _ _ _ _ | exact Kd.Q_nil _ _ _ _ _ | exact Kd.R_nil _ _ _ _ _⟩, ⟨by (with_reducible repeat (first | apply Kd.V_alloc | apply Kd.V_drewN | apply Kd.V_drew)); exact Kd.V_mono HO0.out (fun _ hk => ⟨hk, (by simp [Value.ownBlock])⟩)⟩, ⟨by repeat (first | (with_reducible first | exact HB.out | apply below_alloc | apply pw_below_drewN | apply below_drew1) | exact HB.out)⟩⟩
  case round =>
    clear H'
    try clear p2
    obtain ⟨x5_1, x10_1, rfl, HA, HK1, HO_5, HO_8, HB⟩ := hrel
    cases gk with
    | zero => exact absurd HA.out (by simp [weak_found.l0])
    | succ k1 =>
      have H := HA.out
      clear HA
      simp only [weak_found.l0] at H
      by_cases c3 : x10_1 < (l0.length : Int)
      · rw [if_pos c3] at H
        have c3b0 : decide (x10_1 < (l0.length : Int)) = true := decide_eq_true c3
        clear c3
        by_cases c4 : 0 ≤ x10_1
        · rw [if_pos c4] at H
          have c4b0 : decide (0 ≤ x10_1) = true := decide_eq_true c4
          clear c4
          by_cases c5 : x10_1 < (l0.length : Int)
          · rw [if_pos c5] at H
            have c5b0 : decide (x10_1 < (l0.length : Int)) = true := decide_eq_true c5
            clear c5
            by_cases c6 : ((rd_T107 l0 x10_1).f1) = a1
            · rw [if_pos c6] at H
              have c6b0 : (((rd_T107 l0 x10_1).f1) == a1) = true := beq_iff_eq.mpr c6
              have c6b1 : (((rd_T107 l0 x10_1).f1) != a1) = false := bne_eq_false_iff_eq.mpr c6
              clear c6
              by_cases c7 : x5_1.length < 2932031007402
              · rw [if_pos c7] at H
                have LMc7 := Aside0.mk c7
                clear c7
                obtain ⟨y105, hy105⟩ : ∃ y_ : List (S107), y_ = (x5_1 ++ [(⟨(rd_T107 l0 x10_1).f0, (rd_T107 l0 x10_1).f1, (rd_T107 l0 x10_1).f2, (rd_T107 l0 x10_1).f3⟩ : S107)]) := ⟨_, rfl⟩
                replace H : (weak_found.l0 k1 a1 y105 l0 (l0.length : Int) (wrap64 (x10_1 + 1))) = some r := by first | (rw [hy105]; with_reducible exact H) | (have H2_ := (Option.bind_some _ _).symm.trans H; rw [hy105]; with_reducible exact H2_) | (have H2_ := (Option.bind_some _ _).symm.trans H; with_reducible exact H2_) | with_reducible exact H | (rw [hy105]; exact H) | exact H
                have Ny105 := Aside0.mk hy105
                clear hy105
                have H' := Aside0.mk H
                clear H
                have p103 : 0 ≤ (x10_1 : Int) := of_decide_eq_true (by first | (with_reducible assumption) | assumption)
                have q103 : x10_1 < (l0.length : Int) := of_decide_eq_true (by first | (with_reducible assumption) | assumption)
                obtain ⟨ad103, A103_2, c103_2, e103, hx103_0, hx103_1, hx103_2, hx103_3, hl103_2, hi103_2⟩ := at_T107 (Kd.V_reads' HO_8.out).2.2 x10_1 p103 q103
                cases e103
                obtain ⟨ce103, hce103, hMe103, hcc103⟩ := Kd.V_get HO_8.out z107 x10_1 p103 (by first | exact q103 | exact of_decide_eq_true (by first | (with_reducible assumption) | assumption) | (have e_ := (Kd.V_reads' HO_8.out).1; omega))
                obtain ⟨ua103_2, uc103_2, rfl, ul103_2, ge103_2⟩ := k107_openF hMe103
                have hv103_2 := hcc103 2 _ rfl
                rw [add_field _ _ 2 (by omega)] at hv103_2
                replace hv103_2 := Option.some.inj (hv103_2.symm.trans hx103_2)
                injection hv103_2 with hva_ hvn_ hvc_
                rw [hva_] at ge103_2
                rw [hvc_] at ul103_2
                have HL103_2 := Aside0.mk (show Kd.V (Kd.int .u8) 5 _ w.heap.size _ _ ((rd_T107 l0 x10_1).f2) from Kd.V_mk ul103_2 ge103_2)
                clear hva_ hvn_ hvc_ ge103_2 ul103_2
                clear hcc103 hce103
                have HR103_2 := Aside0.mk hi103_2
                have HC103_2 := Aside0.mk hl103_2
                clear hi103_2 hl103_2
                replace p103 := eq_true p103
                replace q103 := eq_true q103
                go_wp2_with (first | ((with_reducible refine gate_dst (N := 7) rfl ?_); refine box_event ?hg (N := 7) ?hd (cs := #[.int .i64 0, .int .i64 0, .slice none 0 0, .bool false]) (t := 107) ?hr ?_; (case hd => rfl); (case hg => rfl); (case hr => first | (go_simp; done) | (go_simp; rfl)); intro gb104 hg w8 hbox hb; have n0_ := Aside0.mk (Kd.N_below (Kd.N_elderB (by (with_reducible repeat (first | apply Kd.N_alloc | apply Kd.N_drewN | apply Kd.N_drew)); exact HO_5.out) gb104 (Nat.le_of_eq hg.symm)) hb); have n1_ := Aside0.mk (Kd.V_below (Kd.V_elderB (by (with_reducible repeat (first | apply Kd.V_alloc | apply Kd.V_drewN | apply Kd.V_drew)); exact HO_8.out) gb104 (Nat.le_of_eq hg.symm)) hb); have n2_ := Aside0.mk (Kd.V_below (Kd.V_elderB (by (with_reducible repeat (first | apply Kd.V_alloc | apply Kd.V_drewN | apply Kd.V_drew)); exact HL103_2.out) gb104 (Nat.le_of_eq hg.symm)) hb); have n3_ := Aside0.mk (Kd.C_below (by repeat (first | (with_reducible exact HR103_2.out) | (with_reducible refine Kd.C_alloc ?_ _) | (with_reducible refine Kd.C_drewN ?_ _) | (with_reducible refine Kd.C_drew ?_) | exact HR103_2.out)) hb); have n4_ := Aside0.mk (below_step (by repeat (first | (with_reducible first | exact HB.out | apply below_alloc | apply pw_below_drewN | apply below_drew1) | exact HB.out)) hb); have n5_ := Aside0.mk (hbox); have n6_ := Aside0.mk ((by rw [hg]; exact (below_size (by repeat (first | (with_reducible first | exact HB.out | apply below_alloc | apply pw_below_drewN | apply below_drew1) | exact HB.out))) : w.heap.size ≤ gb104)); have n7_ := Aside0.mk ((by rw [hg]; exact (below_size (by repeat (first | (with_reducible first | exact HB.out | apply below_alloc | apply pw_below_drewN | apply below_drew1) | exact HB.out))) : w.heap.size ≤ gb104)); clear HO_5; clear HO_8; clear HL103_2; clear HR103_2; clear HB; have HO_5 := n0_; have HO_8 := n1_; have HL103_2 := n2_; have HR103_2 := n3_; have HB := n4_; have BK104 := n5_; have GW104 := n6_; have GE104 := n7_; clear n0_ n1_ n2_ n3_ n4_ n5_ n6_ n7_; clear hb hbox hg; have hcz9_0 : w8.cell? ⟨gb104, 0, none⟩ = some (.int .i64 0) := (blk_cell BK104.out 0).trans rfl; have hcz9_1 : w8.cell? ⟨gb104, 1, none⟩ = some (.int .i64 0) := (blk_cell BK104.out 1).trans rfl; have hcz9_2 : w8.cell? ⟨gb104, 2, none⟩ = some (.slice none 0 0) := (blk_cell BK104.out 2).trans rfl; have hcz9_3 : w8.cell? ⟨gb104, 3, none⟩ = some (.bool false) := (blk_cell BK104.out 3).trans rfl; have hfz9_0 := blk_frozen BK104.out 0; have hfz9_1 := blk_frozen BK104.out 1; have hfz9_2 := blk_frozen BK104.out 2; have hfz9_3 := blk_frozen BK104.out 3) | ((with_reducible refine gate_store (t := 107) (p := 7) rfl ?_); refine store_event (t := 107) (p := 7) (v := ?vo_w10) (w1 := ((((w8.setCell ⟨gb104, 0, none⟩ (.int .i64 ((rd_T107 l0 x10_1).f0))).setCell ⟨gb104, 1, none⟩ (.int .i64 ((rd_T107 l0 x10_1).f1))).setCell ⟨gb104, 2, none⟩ (.slice A103_2 ((rd_T107 l0 x10_1).f2).length c103_2)).setCell ⟨gb104, 3, none⟩ (.bool ((rd_T107 l0 x10_1).f3)))) ?hg ?ho ?hn ?hr ?_; (case ho => rfl); (case hg => rfl); (case hn => rfl); (case hr => first | (go_simp; done) | (go_simp; rfl)); intro w10 hw; have n0_ : Aside0 (Kd.N k107 107 w10 w.heap.size (fun k_ => (P0_ k_ ∨ w.heap.size ≤ k_) ∧ k_ ≠ gb104) u5 x5_1) := ⟨(by rw [hw]; exact (by (with_reducible repeat (first | apply Kd.N_alloc | apply Kd.N_drewN | apply Kd.N_drew)); exact Kd.N_mono (Kd.N_far (p := ⟨gb104, 3, none⟩) (Kd.N_far (p := ⟨gb104, 2, none⟩) (Kd.N_far (p := ⟨gb104, 1, none⟩) (Kd.N_far (p := ⟨gb104, 0, none⟩) (Kd.N_mono HO_5.out (fun k_ hk => (⟨hk, hk.2⟩ : _ ∧ k_ ≠ gb104))) (fun _ hk => hk.2) (.int .i64 ((rd_T107 l0 x10_1).f0))) (fun _ hk => hk.2) (.int .i64 ((rd_T107 l0 x10_1).f1))) (fun _ hk => hk.2) (.slice A103_2 ((rd_T107 l0 x10_1).f2).length c103_2)) (fun _ hk => hk.2) (.bool ((rd_T107 l0 x10_1).f3))) (fun _ hk => ⟨hk.1.1, hk.1.2⟩)))⟩; have n1_ : Aside0 (Kd.V k107 107 w10 w.heap.size (fun k_ => (P0_ k_ ∨ w.heap.size ≤ k_) ∧ some k_ ≠ (u5 : Value).ownBlock ∧ k_ ≠ gb104) (.slice (some ad103) l0.length c0) l0) := ⟨(by rw [hw]; exact (by (with_reducible repeat (first | apply Kd.V_alloc | apply Kd.V_drewN | apply Kd.V_drew)); exact Kd.V_mono (Kd.V_far (p := ⟨gb104, 3, none⟩) (Kd.V_far (p := ⟨gb104, 2, none⟩) (Kd.V_far (p := ⟨gb104, 1, none⟩) (Kd.V_far (p := ⟨gb104, 0, none⟩) (Kd.V_mono HO_8.out (fun k_ hk => (⟨hk, hk.2⟩ : _ ∧ k_ ≠ gb104))) (fun _ hk => hk.2) (.int .i64 ((rd_T107 l0 x10_1).f0))) (fun _ hk => hk.2) (.int .i64 ((rd_T107 l0 x10_1).f1))) (fun _ hk => hk.2) (.slice A103_2 ((rd_T107 l0 x10_1).f2).length c103_2)) (fun _ hk => hk.2) (.bool ((rd_T107 l0 x10_1).f3))) (fun _ hk => ⟨hk.1.1.1, ⟨hk.1.1.2, hk.1.2⟩⟩)))⟩; have n2_ : Aside0 (Kd.V (Kd.int .u8) 5 w10 w.heap.size (fun k_ => (P0_ k_ ∨ w.heap.size ≤ k_) ∧ some k_ ≠ (u5 : Value).ownBlock ∧ k_ ≠ gb104) (.slice A103_2 ((rd_T107 l0 x10_1).f2).length c103_2) ((rd_T107 l0 x10_1).f2)) := ⟨(by rw [hw]; exact (by (with_reducible repeat (first | apply Kd.V_alloc | apply Kd.V_drewN | apply Kd.V_drew)); exact Kd.V_mono (Kd.V_far (p := ⟨gb104, 3, none⟩) (Kd.V_far (p := ⟨gb104, 2, none⟩) (Kd.V_far (p := ⟨gb104, 1, none⟩) (Kd.V_far (p := ⟨gb104, 0, none⟩) (Kd.V_mono HL103_2.out (fun k_ hk => (⟨hk, hk.2⟩ : _ ∧ k_ ≠ gb104))) (fun _ hk => hk.2) (.int .i64 ((rd_T107 l0 x10_1).f0))) (fun _ hk => hk.2) (.int .i64 ((rd_T107 l0 x10_1).f1))) (fun _ hk => hk.2) (.slice A103_2 ((rd_T107 l0 x10_1).f2).length c103_2)) (fun _ hk => hk.2) (.bool ((rd_T107 l0 x10_1).f3))) (fun _ hk => ⟨hk.1.1.1, ⟨hk.1.1.2, hk.1.2⟩⟩)))⟩; have n3_ : Aside0 (w10.heap[gb104]? = some (.cells #[.int .i64 ((rd_T107 l0 x10_1).f0), .int .i64 ((rd_T107 l0 x10_1).f1), .slice A103_2 ((rd_T107 l0 x10_1).f2).length c103_2, .bool ((rd_T107 l0 x10_1).f3)] 107 (0, 0))) := ⟨(by rw [hw]; exact (by (with_reducible repeat (first | refine blk_drewN ?_ _ | refine blk_drew ?_ | refine blk_alloc ?_ _)); refine blk_put (cs := #[.int .i64 ((rd_T107 l0 x10_1).f0), .int .i64 ((rd_T107 l0 x10_1).f1), .slice A103_2 ((rd_T107 l0 x10_1).f2).length c103_2, .bool false]) ?_ 3 _ rfl; (with_reducible repeat (first | refine blk_drewN ?_ _ | refine blk_drew ?_ | refine blk_alloc ?_ _)); refine blk_put (cs := #[.int .i64 ((rd_T107 l0 x10_1).f0), .int .i64 ((rd_T107 l0 x10_1).f1), .slice none 0 0, .bool false]) ?_ 2 _ rfl; (with_reducible repeat (first | refine blk_drewN ?_ _ | refine blk_drew ?_ | refine blk_alloc ?_ _)); refine blk_put (cs := #[.int .i64 ((rd_T107 l0 x10_1).f0), .int .i64 0, .slice none 0 0, .bool false]) ?_ 1 _ rfl; (with_reducible repeat (first | refine blk_drewN ?_ _ | refine blk_drew ?_ | refine blk_alloc ?_ _)); refine blk_put (cs := #[.int .i64 0, .int .i64 0, .slice none 0 0, .bool false]) ?_ 0 _ rfl; (with_reducible repeat (first | refine blk_drewN ?_ _ | refine blk_drew ?_ | refine blk_alloc ?_ _)); exact BK104.out))⟩; have n4_ : Aside0 (Below w.heap.size w w10) := ⟨(by rw [hw]; exact (by repeat (first | (with_reducible first | exact HB.out | apply below_alloc | apply pw_below_drewN | apply below_drew1 | refine below_set ?_ GE104.out) | exact HB.out)))⟩; clear hw; clear HO_5; clear HO_8; clear HL103_2; clear BK104; clear HB; have HO_5 := n0_; have HO_8 := n1_; have HL103_2 := n2_; have BK104 := n3_; have HB := n4_; clear n0_ n1_ n2_ n3_ n4_; have hcz11_0 : w10.cell? ⟨gb104, 0, none⟩ = some (.int .i64 ((rd_T107 l0 x10_1).f0)) := (blk_cell BK104.out 0).trans rfl; have hcz11_1 : w10.cell? ⟨gb104, 1, none⟩ = some (.int .i64 ((rd_T107 l0 x10_1).f1)) := (blk_cell BK104.out 1).trans rfl; have hcz11_2 : w10.cell? ⟨gb104, 2, none⟩ = some (.slice A103_2 ((rd_T107 l0 x10_1).f2).length c103_2) := (blk_cell BK104.out 2).trans rfl; have hcz11_3 : w10.cell? ⟨gb104, 3, none⟩ = some (.bool ((rd_T107 l0 x10_1).f3)) := (blk_cell BK104.out 3).trans rfl; have hfz11_0 := blk_frozen BK104.out 0; have hfz11_1 := blk_frozen BK104.out 1; have hfz11_2 := blk_frozen BK104.out 2; have hfz11_3 := blk_frozen BK104.out 3) | ((with_reducible refine gate_builtin (b := .append) (xs := #[.tmp 18, .tmp 20]) rfl ?_); at_builtin; refine Kd.N_append k107 (w0 := w) w.heap.size rfl (.tmp 18) (.tmp 20) 102 107 (.agg #[(.int .i64 0), (.int .i64 0), (.slice none 0 0), (.bool false)]) 48 rfl Try.underlying102 info107 rfl (by decide) (by omega) u5 x5_1 (⟨(rd_T107 l0 x10_1).f0, (rd_T107 l0 x10_1).f1, (rd_T107 l0 x10_1).f2, (rd_T107 l0 x10_1).f3⟩ : S107) [.int .i64 ((rd_T107 l0 x10_1).f0), .int .i64 ((rd_T107 l0 x10_1).f1), .slice A103_2 ((rd_T107 l0 x10_1).f2).length c103_2, .bool ((rd_T107 l0 x10_1).f3)] (fun k_ => (P0_ k_ ∨ w.heap.size ≤ k_) ∧ k_ ≠ gb104) (fun k_ => ((fun k_ => (P0_ k_ ∨ w.heap.size ≤ k_) ∧ k_ ≠ gb104)) k_ ∧ some k_ ≠ (u5 : Value).ownBlock) rfl rfl ?aP (fun _ hk => hk) ?aF ?aO ?aB ?aS ?aL ?_; (case aP => exact (k107_mkF _ _ (⟨(rd_T107 l0 x10_1).f0, (rd_T107 l0 x10_1).f1, (rd_T107 l0 x10_1).f2, (rd_T107 l0 x10_1).f3⟩ : S107) (Kd.V_reads' (Kd.V_mono (ok' := (fun k_ => ((fun k_ => (P0_ k_ ∨ w.heap.size ≤ k_) ∧ k_ ≠ gb104)) k_ ∧ some k_ ≠ (u5 : Value).ownBlock)) (HL103_2.out) (fun k_ hk => ⟨⟨hk.1, hk.2.2⟩, hk.2.1⟩))).2.1 (Kd.V_F (Kd.V_mono (ok' := (fun k_ => ((fun k_ => (P0_ k_ ∨ w.heap.size ≤ k_) ∧ k_ ≠ gb104)) k_ ∧ some k_ ≠ (u5 : Value).ownBlock)) (HL103_2.out) (fun k_ hk => ⟨⟨hk.1, hk.2.2⟩, hk.2.1⟩))))); (case aB => exact (by repeat (first | (with_reducible first | exact HB.out | apply below_alloc | apply pw_below_drewN | apply below_drew1 | refine below_set ?_ GE104.out) | exact HB.out))); (case aF => exact (fun k_ hk => ⟨(.inr (Nat.le_trans (below_size (by repeat (first | (with_reducible first | exact HB.out | apply below_alloc | apply pw_below_drewN | apply below_drew1 | refine below_set ?_ GE104.out) | exact HB.out))) hk)), Kd.freshB (g := gb104) (o := .cells #[.int .i64 ((rd_T107 l0 x10_1).f0), .int .i64 ((rd_T107 l0 x10_1).f1), .slice A103_2 ((rd_T107 l0 x10_1).f2).length c103_2, .bool ((rd_T107 l0 x10_1).f3)] 107 (0, 0)) (by (with_reducible repeat (first | refine blk_drewN ?_ _ | refine blk_drew ?_ | refine blk_alloc ?_ _)); exact BK104.out) k_ hk⟩)); (case aO => exact (by (with_reducible repeat (first | apply Kd.N_alloc | apply Kd.N_drewN | apply Kd.N_drew)); exact HO_5.out)); (case aS => exact (below_size (by repeat (first | (with_reducible first | exact HB.out | apply below_alloc | apply pw_below_drewN | apply below_drew1 | refine below_set ?_ GE104.out) | exact HB.out)))); (case aL => have := LMc7.out; omega); intro v106 w12 ho hb hg hat; rw [← Ny105.out] at ho; have n0_ := Aside0.mk (Kd.V_afterv (ok := (fun k_ => (P0_ k_ ∨ w.heap.size ≤ k_) ∧ k_ ≠ gb104)) (by (with_reducible repeat (first | apply Kd.V_alloc | apply Kd.V_drewN | apply Kd.V_drew)); exact Kd.V_mono HO_8.out (fun _ hk => ⟨⟨hk.1, hk.2.2⟩, hk.2.1⟩)) hg hat); have n1_ := Aside0.mk (Kd.V_afterv (ok := (fun k_ => (P0_ k_ ∨ w.heap.size ≤ k_) ∧ k_ ≠ gb104)) (by (with_reducible repeat (first | apply Kd.V_alloc | apply Kd.V_drewN | apply Kd.V_drew)); exact Kd.V_mono HL103_2.out (fun _ hk => ⟨⟨hk.1, hk.2.2⟩, hk.2.1⟩)) hg hat); have n2_ := Aside0.mk (blk_grown (g := gb104) (o := .cells #[.int .i64 ((rd_T107 l0 x10_1).f0), .int .i64 ((rd_T107 l0 x10_1).f1), .slice A103_2 ((rd_T107 l0 x10_1).f2).length c103_2, .bool ((rd_T107 l0 x10_1).f3)] 107 (0, 0)) (by (with_reducible repeat (first | refine blk_drewN ?_ _ | refine blk_drew ?_ | refine blk_alloc ?_ _)); exact BK104.out) hg (Kd.N_away HO_5.out (fun _ hk => hk.2))); have n3_ := Aside0.mk (hb); have n4_ := Aside0.mk (ho); clear HO_8; clear HL103_2; clear BK104; clear HB; clear HO_5; have HO_8 := n0_; have HL103_2 := n1_; have BK104 := n2_; have HB := n3_; have HO107 := n4_; clear n0_ n1_ n2_ n3_ n4_; clear ho hb hg hat))
                go_roundg k1
                case measure => have := HK1.out; omega
                case rel => exact ⟨(y105), (wrap64 (x10_1 + 1)), (by first | rfl | (simp; done) | (simp [*]; done)), H', ⟨by have := HK1.out; omega⟩, ⟨by (with_reducible repeat (first | apply Kd.N_alloc | apply Kd.N_drewN | apply Kd.N_drew)); exact Kd.N_mono HO107.out (fun _ hk => hk.1)⟩, ⟨by (with_reducible repeat (first | apply Kd.V_alloc | apply Kd.V_drewN | apply Kd.V_drew)); exact Kd.V_mono HO_8.out (fun _ hk => ⟨hk.1.1, hk.2⟩)⟩, ⟨by repeat (first | (with_reducible first | exact HB.out | apply below_alloc | apply pw_below_drewN | apply below_drew1 | refine below_set ?_ GE104.out) | exact HB.out)⟩⟩
              · rw [if_neg c7] at H
                exact absurd H (by simp)
            · rw [if_neg c6] at H
              have c6b0 : (((rd_T107 l0 x10_1).f1) == a1) = false := beq_eq_false_iff_ne.mpr c6
              have c6b1 : (((rd_T107 l0 x10_1).f1) != a1) = true := bne_iff_ne.mpr c6
              have H' := Aside0.mk H
              clear H
              have p103 : 0 ≤ (x10_1 : Int) := of_decide_eq_true (by first | (with_reducible assumption) | assumption)
              have q103 : x10_1 < (l0.length : Int) := of_decide_eq_true (by first | (with_reducible assumption) | assumption)
              obtain ⟨ad103, A103_2, c103_2, e103, hx103_0, hx103_1, hx103_2, hx103_3, hl103_2, hi103_2⟩ := at_T107 (Kd.V_reads' HO_8.out).2.2 x10_1 p103 q103
              cases e103
              obtain ⟨ce103, hce103, hMe103, hcc103⟩ := Kd.V_get HO_8.out z107 x10_1 p103 (by first | exact q103 | exact of_decide_eq_true (by first | (with_reducible assumption) | assumption) | (have e_ := (Kd.V_reads' HO_8.out).1; omega))
              obtain ⟨ua103_2, uc103_2, rfl, ul103_2, ge103_2⟩ := k107_openF hMe103
              have hv103_2 := hcc103 2 _ rfl
              rw [add_field _ _ 2 (by omega)] at hv103_2
              replace hv103_2 := Option.some.inj (hv103_2.symm.trans hx103_2)
              injection hv103_2 with hva_ hvn_ hvc_
              rw [hva_] at ge103_2
              rw [hvc_] at ul103_2
              have HL103_2 := Aside0.mk (show Kd.V (Kd.int .u8) 5 _ w.heap.size _ _ ((rd_T107 l0 x10_1).f2) from Kd.V_mk ul103_2 ge103_2)
              clear hva_ hvn_ hvc_ ge103_2 ul103_2
              clear hcc103 hce103
              have HR103_2 := Aside0.mk hi103_2
              have HC103_2 := Aside0.mk hl103_2
              clear hi103_2 hl103_2
              replace p103 := eq_true p103
              replace q103 := eq_true q103
              go_wp2_with (first | ((with_reducible refine gate_dst (N := 7) rfl ?_); refine box_event ?hg (N := 7) ?hd (cs := #[.int .i64 0, .int .i64 0, .slice none 0 0, .bool false]) (t := 107) ?hr ?_; (case hd => rfl); (case hg => rfl); (case hr => first | (go_simp; done) | (go_simp; rfl)); intro gb104 hg w13 hbox hb; have n0_ := Aside0.mk (Kd.N_below (Kd.N_elderB (by (with_reducible repeat (first | apply Kd.N_alloc | apply Kd.N_drewN | apply Kd.N_drew)); exact HO_5.out) gb104 (Nat.le_of_eq hg.symm)) hb); have n1_ := Aside0.mk (Kd.V_below (Kd.V_elderB (by (with_reducible repeat (first | apply Kd.V_alloc | apply Kd.V_drewN | apply Kd.V_drew)); exact HO_8.out) gb104 (Nat.le_of_eq hg.symm)) hb); have n2_ := Aside0.mk (Kd.V_below (Kd.V_elderB (by (with_reducible repeat (first | apply Kd.V_alloc | apply Kd.V_drewN | apply Kd.V_drew)); exact HL103_2.out) gb104 (Nat.le_of_eq hg.symm)) hb); have n3_ := Aside0.mk (Kd.C_below (by repeat (first | (with_reducible exact HR103_2.out) | (with_reducible refine Kd.C_alloc ?_ _) | (with_reducible refine Kd.C_drewN ?_ _) | (with_reducible refine Kd.C_drew ?_) | exact HR103_2.out)) hb); have n4_ := Aside0.mk (below_step (by repeat (first | (with_reducible first | exact HB.out | apply below_alloc | apply pw_below_drewN | apply below_drew1) | exact HB.out)) hb); have n5_ := Aside0.mk (hbox); have n6_ := Aside0.mk ((by rw [hg]; exact (below_size (by repeat (first | (with_reducible first | exact HB.out | apply below_alloc | apply pw_below_drewN | apply below_drew1) | exact HB.out))) : w.heap.size ≤ gb104)); have n7_ := Aside0.mk ((by rw [hg]; exact (below_size (by repeat (first | (with_reducible first | exact HB.out | apply below_alloc | apply pw_below_drewN | apply below_drew1) | exact HB.out))) : w.heap.size ≤ gb104)); clear HO_5; clear HO_8; clear HL103_2; clear HR103_2; clear HB; have HO_5 := n0_; have HO_8 := n1_; have HL103_2 := n2_; have HR103_2 := n3_; have HB := n4_; have BK104 := n5_; have GW104 := n6_; have GE104 := n7_; clear n0_ n1_ n2_ n3_ n4_ n5_ n6_ n7_; clear hb hbox hg; have hcz14_0 : w13.cell? ⟨gb104, 0, none⟩ = some (.int .i64 0) := (blk_cell BK104.out 0).trans rfl; have hcz14_1 : w13.cell? ⟨gb104, 1, none⟩ = some (.int .i64 0) := (blk_cell BK104.out 1).trans rfl; have hcz14_2 : w13.cell? ⟨gb104, 2, none⟩ = some (.slice none 0 0) := (blk_cell BK104.out 2).trans rfl; have hcz14_3 : w13.cell? ⟨gb104, 3, none⟩ = some (.bool false) := (blk_cell BK104.out 3).trans rfl; have hfz14_0 := blk_frozen BK104.out 0; have hfz14_1 := blk_frozen BK104.out 1; have hfz14_2 := blk_frozen BK104.out 2; have hfz14_3 := blk_frozen BK104.out 3))
              go_roundg k1
              case measure => have := HK1.out; omega
              case rel => exact ⟨(x5_1), (wrap64 (x10_1 + 1)), (by first | rfl | (simp; done) | (simp [*]; done)), H', ⟨by have := HK1.out; omega⟩, ⟨by (with_reducible repeat (first | apply Kd.N_alloc | apply Kd.N_drewN | apply Kd.N_drew)); exact Kd.N_mono (Kd.N_far (p := ⟨gb104, 3, none⟩) (Kd.N_far (p := ⟨gb104, 2, none⟩) (Kd.N_far (p := ⟨gb104, 1, none⟩) (Kd.N_far (p := ⟨gb104, 0, none⟩) (Kd.N_mono HO_5.out (fun k_ hk => (⟨hk, hk.2⟩ : _ ∧ k_ ≠ gb104))) (fun _ hk => hk.2) (.int .i64 ((rd_T107 l0 x10_1).f0))) (fun _ hk => hk.2) (.int .i64 ((rd_T107 l0 x10_1).f1))) (fun _ hk => hk.2) (.slice A103_2 ((rd_T107 l0 x10_1).f2).length c103_2)) (fun _ hk => hk.2) (.bool ((rd_T107 l0 x10_1).f3))) (fun _ hk => hk.1.1)⟩, ⟨by (with_reducible repeat (first | apply Kd.V_alloc | apply Kd.V_drewN | apply Kd.V_drew)); exact Kd.V_mono (Kd.V_far (p := ⟨gb104, 3, none⟩) (Kd.V_far (p := ⟨gb104, 2, none⟩) (Kd.V_far (p := ⟨gb104, 1, none⟩) (Kd.V_far (p := ⟨gb104, 0, none⟩) (Kd.V_mono HO_8.out (fun k_ hk => (⟨hk, hk.2⟩ : _ ∧ k_ ≠ gb104))) (fun _ hk => hk.2) (.int .i64 ((rd_T107 l0 x10_1).f0))) (fun _ hk => hk.2) (.int .i64 ((rd_T107 l0 x10_1).f1))) (fun _ hk => hk.2) (.slice A103_2 ((rd_T107 l0 x10_1).f2).length c103_2)) (fun _ hk => hk.2) (.bool ((rd_T107 l0 x10_1).f3))) (fun _ hk => ⟨hk.1.1.1, hk.1.1.2⟩)⟩, ⟨by repeat (first | (with_reducible first | exact HB.out | apply below_alloc | apply pw_below_drewN | apply below_drew1 | refine below_set ?_ GE104.out) | exact HB.out)⟩⟩
          · rw [if_neg c5] at H
            exact absurd H (by simp)
        · rw [if_neg c4] at H
          exact absurd H (by simp)
      · rw [if_neg c3] at H
        have c3b0 : decide (x10_1 < (l0.length : Int)) = false := decide_eq_false c3
        clear c3
        obtain rfl := Option.some.inj H
        go_wp2
        go_ret
        exact ⟨_, by first | rfl | (simp [errW_none, errW_some] <;> rfl) | (simp [*, errW_none, errW_some] <;> rfl), by (with_reducible repeat (first | apply Kd.N_alloc | apply Kd.N_drewN | apply Kd.N_drew)); exact HO_5.out, by repeat (first | (with_reducible first | exact HB.out | apply below_alloc | apply pw_below_drewN | apply below_drew1) | exact HB.out)⟩

-- NOT PRINTED: function 123 (slices_IndexFunc_api_SectorData_api_SectorData_123)

-- NOT PRINTED: function 116 (slices_ContainsFunc_api_SectorData_api_SectorData_116)

/-! ### weak_one_1: function 117 -/
def weak_one_1.f (a0_0 : Int) (a0_1 : Int) (l0_2 : List Int) (a0_3 : Bool) : Option (Bool) := some (!a0_3)
set_option maxHeartbeats 8000000 in
set_option maxRecDepth 100000 in
theorem weak_one_1.calls (a0_0 : Int) (a0_1 : Int) (A0_2 : Option Addr) (c0_2 : Nat) (l0_2 : List Int) (a0_3 : Bool) (r : Bool) (w : World) (hr0_2 : Kd.C (Kd.int .u8) w A0_2 l0_2.length l0_2) (hc0_2 : l0_2.length ≤ c0_2) (h : weak_one_1.f a0_0 a0_1 l0_2 a0_3 = some r) :
    Calls Try.prog 117 #[.agg #[.int .i64 a0_0, .int .i64 a0_1, .slice A0_2 l0_2.length c0_2, .bool a0_3]] w fun e w' => e = .returned (.bool r) ∧ Below w.heap.size w w' := by
  have hu107 := Try.underlying107
  have HR0_2 := Aside0.mk hr0_2
  have HC0_2 := Aside0.mk hc0_2
  clear hr0_2 hc0_2
  have HB := Aside0.mk (Below.refl w.heap.size w)
  have H : (some (!a0_3)) = some r := h
  clear h
  obtain rfl := Option.some.inj H
  go_enter Try.func117, Try.ntmps117
  go_wp2_with (first | ((with_reducible refine gate_dst (N := 1) rfl ?_); refine box_event ?hg (N := 1) ?hd (cs := #[.int .i64 a0_0, .int .i64 a0_1, .slice A0_2 l0_2.length c0_2, .bool a0_3]) (t := 107) ?hr ?_; (case hd => rfl); (case hg => rfl); (case hr => first | (go_simp; done) | (go_simp; rfl)); intro gb108 hg w2 hbox hb; have n0_ := Aside0.mk (below_step (by repeat (first | (with_reducible first | exact HB.out | apply below_alloc | apply pw_below_drewN | apply below_drew1) | exact HB.out)) hb); have n1_ := Aside0.mk (hbox); have n2_ := Aside0.mk ((by rw [hg]; exact (below_size (by repeat (first | (with_reducible first | exact HB.out | apply below_alloc | apply pw_below_drewN | apply below_drew1) | exact HB.out))) : w.heap.size ≤ gb108)); have n3_ := Aside0.mk ((by rw [hg]; exact (below_size (by repeat (first | (with_reducible first | exact HB.out | apply below_alloc | apply pw_below_drewN | apply below_drew1) | exact HB.out))) : w.heap.size ≤ gb108)); clear HB; have HB := n0_; have BK108 := n1_; have GW108 := n2_; have GE108 := n3_; clear n0_ n1_ n2_ n3_; clear hb hbox hg; have hcz3_0 : w2.cell? ⟨gb108, 0, none⟩ = some (.int .i64 a0_0) := (blk_cell BK108.out 0).trans rfl; have hcz3_1 : w2.cell? ⟨gb108, 1, none⟩ = some (.int .i64 a0_1) := (blk_cell BK108.out 1).trans rfl; have hcz3_2 : w2.cell? ⟨gb108, 2, none⟩ = some (.slice A0_2 l0_2.length c0_2) := (blk_cell BK108.out 2).trans rfl; have hcz3_3 : w2.cell? ⟨gb108, 3, none⟩ = some (.bool a0_3) := (blk_cell BK108.out 3).trans rfl; have hfz3_0 := blk_frozen BK108.out 0; have hfz3_1 := blk_frozen BK108.out 1; have hfz3_2 := blk_frozen BK108.out 2; have hfz3_3 := blk_frozen BK108.out 3))
  go_ret
  exact ⟨by first | rfl | (simp [errW_none, errW_some] <;> rfl) | (simp [*, errW_none, errW_some] <;> rfl), by repeat (first | (with_reducible first | exact HB.out | apply below_alloc | apply pw_below_drewN | apply below_drew1 | refine below_set ?_ GE108.out) | exact HB.out)⟩

-- NOT PRINTED: function 118 (weak_one_2)

/-! ### slices_IndexFunc_weak_one_1: function 141 -/
def slices_IndexFunc_weak_one_1.l0 : Nat → List (S107) → Int → Int → Option (Int)
  | 0, _, _, _ => none
  | k + 1, x0, x7, x8 => if x8 < x7 then (if 0 ≤ x8 then (if x8 < (x0.length : Int) then ((weak_one_1.f ((rd_T107 x0 x8).f0) ((rd_T107 x0 x8).f1) ((rd_T107 x0 x8).f2) ((rd_T107 x0 x8).f3)).bind fun t110 => (if t110 = true then (some x8) else (slices_IndexFunc_weak_one_1.l0 k x0 x7 (wrap64 (x8 + 1))))) else (none)) else (none)) else (some (-1))
def slices_IndexFunc_weak_one_1.f (k : Nat) (l0 : List (S107)) : Option (Int) := slices_IndexFunc_weak_one_1.l0 k l0 (l0.length : Int) 0
theorem slices_IndexFunc_weak_one_1.mono_l : ∀ k, (∀ y0 y1 y2, LeO (slices_IndexFunc_weak_one_1.l0 k y0 y1 y2) (slices_IndexFunc_weak_one_1.l0 (k + 1) y0 y1 y2))
  | 0 => fun _ _ _ r h => by simp [slices_IndexFunc_weak_one_1.l0] at h
  | k + 1 => by
    have ih0 := slices_IndexFunc_weak_one_1.mono_l k
    · intro y0 y1 y2
      unfold slices_IndexFunc_weak_one_1.l0
      repeat' first
      | (with_reducible exact ih0 _ _ _)
      | (with_reducible exact LeO.refl _)
      | (with_reducible exact LeO.none _)
      | (with_reducible refine LeO.ite ?_ ?_)
      | (with_reducible refine LeO.bind ?_ (fun _ => ?_))
      | exact ih0 _ _ _
      | exact LeO.none _
      | refine LeO.ite ?_ ?_
      | refine LeO.bind ?_ (fun _ => ?_)
theorem slices_IndexFunc_weak_one_1.mono : ∀ a0 k, LeO (slices_IndexFunc_weak_one_1.f k a0) (slices_IndexFunc_weak_one_1.f (k + 1) a0) := by
  intro a0 k
  have ih0 := slices_IndexFunc_weak_one_1.mono_l k
  unfold slices_IndexFunc_weak_one_1.f
  repeat' first
      | (with_reducible exact ih0 _ _ _)
      | (with_reducible exact LeO.refl _)
      | (with_reducible exact LeO.none _)
      | (with_reducible refine LeO.ite ?_ ?_)
      | (with_reducible refine LeO.bind ?_ (fun _ => ?_))
      | exact ih0 _ _ _
      | exact LeO.none _
      | refine LeO.ite ?_ ?_
      | refine LeO.bind ?_ (fun _ => ?_)
set_option maxHeartbeats 8000000 in
set_option maxRecDepth 100000 in
theorem slices_IndexFunc_weak_one_1.calls (k : Nat) (A0 : Option Addr) (c0 : Nat) (l0 : List (S107)) (r : Int) (w : World) (hr0 : Kd.C k107 w A0 l0.length l0) (hc0 : l0.length ≤ c0) (h : slices_IndexFunc_weak_one_1.f k l0 = some r) :
    Calls Try.prog 123 #[.slice A0 l0.length c0, .func (.func 117) #[] #[]] w fun e w' => e = .returned (.int .i64 r) ∧ Below w.heap.size w w' := by
  have hu107 := Try.underlying107
  have HR0 := Aside0.mk hr0
  have HC0 := Aside0.mk hc0
  clear hr0 hc0
  have HB := Aside0.mk (Below.refl w.heap.size w)
  have H : (slices_IndexFunc_weak_one_1.l0 k l0 (l0.length : Int) 0) = some r := h
  clear h
  have H' := Aside0.mk H
  clear H
  go_enter Try.func123, Try.ntmps123
  go_wp2
  go_loopg [8] k (fun kq v8 w' => ∃ (x8_1 : Int), v8 = .int .i64 x8_1 ∧ Aside0 (slices_IndexFunc_weak_one_1.l0 kq l0 (l0.length : Int) x8_1 = some r) ∧ Aside0 (kq ≤ k) ∧ Aside0 (Below w.heap.size w w'))
  case atStart => exact ⟨(0), (by first | rfl | (simp; done) | (simp [*]; done)), H', ⟨Nat.le_refl _⟩, ⟨by repeat (first | (with_reducible first | exact HB.out | apply below_alloc | apply pw_below_drewN | apply below_drew1) | exact HB.out)⟩⟩
  case round =>
    clear H'
    try clear c1
    obtain ⟨x8_1, rfl, HA, HK1, HB⟩ := hrel
    cases gk with
    | zero => exact absurd HA.out (by simp [slices_IndexFunc_weak_one_1.l0])
    | succ k1 =>
      have H := HA.out
      clear HA
      simp only [slices_IndexFunc_weak_one_1.l0] at H
      by_cases c2 : x8_1 < (l0.length : Int)
      · rw [if_pos c2] at H
        have c2b0 : decide (x8_1 < (l0.length : Int)) = true := decide_eq_true c2
        clear c2
        by_cases c3 : 0 ≤ x8_1
        · rw [if_pos c3] at H
          have c3b0 : decide (0 ≤ x8_1) = true := decide_eq_true c3
          clear c3
          by_cases c4 : x8_1 < (l0.length : Int)
          · rw [if_pos c4] at H
            have c4b0 : decide (x8_1 < (l0.length : Int)) = true := decide_eq_true c4
            clear c4
            replace H := Option.bind_eq_some_iff.mp H
            obtain ⟨t110, A50, H⟩ := H
            replace H : (if t110 = true then (some x8_1) else (slices_IndexFunc_weak_one_1.l0 k1 l0 (l0.length : Int) (wrap64 (x8_1 + 1)))) = some r := H
            have A5 := Aside0.mk A50
            clear A50
            by_cases c6 : t110 = true
            · subst c6
              have H1 : (some x8_1) = some r := by rw [if_pos rfl] at H; exact H
              clear H
              have H := H1
              clear H1
              obtain rfl := Option.some.inj H
              have p109 : 0 ≤ (x8_1 : Int) := of_decide_eq_true (by first | (with_reducible assumption) | assumption)
              have q109 : x8_1 < (l0.length : Int) := of_decide_eq_true (by first | (with_reducible assumption) | assumption)
              obtain ⟨ad109, A109_2, c109_2, e109, hx109_0, hx109_1, hx109_2, hx109_3, hl109_2, hi109_2⟩ := at_T107 HR0.out x8_1 p109 q109
              cases e109
              replace hx109_0 := (HB.out.cell (World.block_lt_of_cell? w _ hx109_0)).trans hx109_0
              replace hx109_1 := (HB.out.cell (World.block_lt_of_cell? w _ hx109_1)).trans hx109_1
              replace hx109_2 := (HB.out.cell (World.block_lt_of_cell? w _ hx109_2)).trans hx109_2
              replace hx109_3 := (HB.out.cell (World.block_lt_of_cell? w _ hx109_3)).trans hx109_3
              have HR109_2 := Aside0.mk hi109_2
              have HC109_2 := Aside0.mk hl109_2
              clear hi109_2 hl109_2
              replace p109 := eq_true p109
              replace q109 := eq_true q109
              go_wp2_with (first | (go_at_call 117; (with_reducible refine (weak_one_1.calls ((rd_T107 l0 x8_1).f0) ((rd_T107 l0 x8_1).f1) _ _ ((rd_T107 l0 x8_1).f2) ((rd_T107 l0 x8_1).f3) true _ ?side1 ?side2 A5.out).mono ?_); (case side1 => repeat (first | exact (Kd.C_below HR109_2.out HB.out) | (with_reducible refine Kd.C_alloc ?_ _) | (with_reducible refine Kd.C_drewN ?_ _) | (with_reducible refine Kd.C_drew ?_))); (case side2 => exact HC109_2.out); rintro e w7 ⟨rfl, hb⟩; have n0_ := Aside0.mk (below_step (by repeat (first | (with_reducible first | exact HB.out | apply below_alloc | apply pw_below_drewN | apply below_drew1) | exact HB.out)) hb); clear HB; have HB := n0_; clear n0_; (try clear hb); (try clear hb2); (try clear hk); (try clear hi)))
              go_ret
              exact ⟨by first | rfl | (simp [errW_none, errW_some] <;> rfl) | (simp [*, errW_none, errW_some] <;> rfl), by repeat (first | (with_reducible first | exact HB.out | apply below_alloc | apply pw_below_drewN | apply below_drew1) | exact HB.out)⟩
            · replace c6 := Bool.eq_false_iff.mpr c6
              subst c6
              have H1 : (slices_IndexFunc_weak_one_1.l0 k1 l0 (l0.length : Int) (wrap64 (x8_1 + 1))) = some r := by rw [if_neg (show ¬ (false = true) by decide)] at H; exact H
              clear H
              have H := H1
              clear H1
              have H' := Aside0.mk H
              clear H
              have p109 : 0 ≤ (x8_1 : Int) := of_decide_eq_true (by first | (with_reducible assumption) | assumption)
              have q109 : x8_1 < (l0.length : Int) := of_decide_eq_true (by first | (with_reducible assumption) | assumption)
              obtain ⟨ad109, A109_2, c109_2, e109, hx109_0, hx109_1, hx109_2, hx109_3, hl109_2, hi109_2⟩ := at_T107 HR0.out x8_1 p109 q109
              cases e109
              replace hx109_0 := (HB.out.cell (World.block_lt_of_cell? w _ hx109_0)).trans hx109_0
              replace hx109_1 := (HB.out.cell (World.block_lt_of_cell? w _ hx109_1)).trans hx109_1
              replace hx109_2 := (HB.out.cell (World.block_lt_of_cell? w _ hx109_2)).trans hx109_2
              replace hx109_3 := (HB.out.cell (World.block_lt_of_cell? w _ hx109_3)).trans hx109_3
              have HR109_2 := Aside0.mk hi109_2
              have HC109_2 := Aside0.mk hl109_2
              clear hi109_2 hl109_2
              replace p109 := eq_true p109
              replace q109 := eq_true q109
              go_wp2_with (first | (go_at_call 117; (with_reducible refine (weak_one_1.calls ((rd_T107 l0 x8_1).f0) ((rd_T107 l0 x8_1).f1) _ _ ((rd_T107 l0 x8_1).f2) ((rd_T107 l0 x8_1).f3) false _ ?side1 ?side2 A5.out).mono ?_); (case side1 => repeat (first | exact (Kd.C_below HR109_2.out HB.out) | (with_reducible refine Kd.C_alloc ?_ _) | (with_reducible refine Kd.C_drewN ?_ _) | (with_reducible refine Kd.C_drew ?_))); (case side2 => exact HC109_2.out); rintro e w8 ⟨rfl, hb⟩; have n0_ := Aside0.mk (below_step (by repeat (first | (with_reducible first | exact HB.out | apply below_alloc | apply pw_below_drewN | apply below_drew1) | exact HB.out)) hb); clear HB; have HB := n0_; clear n0_; (try clear hb); (try clear hb2); (try clear hk); (try clear hi)))
              go_roundg k1
              case measure => have := HK1.out; omega
              case rel => exact ⟨(wrap64 (x8_1 + 1)), (by first | rfl | (simp; done) | (simp [*]; done)), H', ⟨by have := HK1.out; omega⟩, ⟨by repeat (first | (with_reducible first | exact HB.out | apply below_alloc | apply pw_below_drewN | apply below_drew1) | exact HB.out)⟩⟩
          · rw [if_neg c4] at H
            exact absurd H (by simp)
        · rw [if_neg c3] at H
          exact absurd H (by simp)
      · rw [if_neg c2] at H
        have c2b0 : decide (x8_1 < (l0.length : Int)) = false := decide_eq_false c2
        clear c2
        obtain rfl := Option.some.inj H
        go_wp2
        go_ret
        exact ⟨by first | rfl | (simp [errW_none, errW_some] <;> rfl) | (simp [*, errW_none, errW_some] <;> rfl), by repeat (first | (with_reducible first | exact HB.out | apply below_alloc | apply pw_below_drewN | apply below_drew1) | exact HB.out)⟩

/-! ### slices_ContainsFunc_weak_one_1: function 140 -/
def slices_ContainsFunc_weak_one_1.f (k : Nat) (l0 : List (S107)) : Option (Bool) := (slices_IndexFunc_weak_one_1.f k l0).bind fun t111 => (some (decide (t111 ≥ 0)))
theorem slices_ContainsFunc_weak_one_1.mono : ∀ a0 k, LeO (slices_ContainsFunc_weak_one_1.f k a0) (slices_ContainsFunc_weak_one_1.f (k + 1) a0) := by
  intro a0 k
  unfold slices_ContainsFunc_weak_one_1.f
  repeat' first
      | (with_reducible exact slices_IndexFunc_weak_one_1.mono _ _)
      | (with_reducible exact LeO.refl _)
      | (with_reducible exact LeO.none _)
      | (with_reducible refine LeO.ite ?_ ?_)
      | (with_reducible refine LeO.bind ?_ (fun _ => ?_))
      | exact slices_IndexFunc_weak_one_1.mono _ _
      | exact LeO.none _
      | refine LeO.ite ?_ ?_
      | refine LeO.bind ?_ (fun _ => ?_)
set_option maxHeartbeats 8000000 in
set_option maxRecDepth 100000 in
theorem slices_ContainsFunc_weak_one_1.calls (k : Nat) (A0 : Option Addr) (c0 : Nat) (l0 : List (S107)) (r : Bool) (w : World) (hr0 : Kd.C k107 w A0 l0.length l0) (hc0 : l0.length ≤ c0) (h : slices_ContainsFunc_weak_one_1.f k l0 = some r) :
    Calls Try.prog 116 #[.slice A0 l0.length c0, .func (.func 117) #[] #[]] w fun e w' => e = .returned (.bool r) ∧ Below w.heap.size w w' := by
  have HR0 := Aside0.mk hr0
  have HC0 := Aside0.mk hc0
  clear hr0 hc0
  have HB := Aside0.mk (Below.refl w.heap.size w)
  have H : ((slices_IndexFunc_weak_one_1.f k l0).bind fun t111 => (some (decide (t111 ≥ 0)))) = some r := h
  clear h
  replace H := Option.bind_eq_some_iff.mp H
  obtain ⟨t111, A20, H⟩ := H
  replace H : (some (decide (t111 ≥ 0))) = some r := H
  have A2 := Aside0.mk A20
  clear A20
  obtain rfl := Option.some.inj H
  go_enter Try.func116, Try.ntmps116
  go_wp2_with (first | ((with_reducible refine gate_callee (f := 123) rfl ?_); refine goesL_ (some 7) rfl rfl Try.func123 (by kernel_rfl) rfl #[.slice A0 l0.length c0, .func (.func 117) #[] #[]] rfl (by (try simp only [List.map_toArray, List.map_cons, List.map_nil]); first | done | rfl | (simp only [List.length_drop, List.length_take]; rfl)) ?_; (with_reducible refine (slices_IndexFunc_weak_one_1.calls k _ _ l0 t111 _ ?side1 ?side2 A2.out).mono ?_); (case side1 => repeat (first | exact HR0.out | (with_reducible refine Kd.C_alloc ?_ _) | (with_reducible refine Kd.C_drewN ?_ _) | (with_reducible refine Kd.C_drew ?_))); (case side2 => exact HC0.out); rintro e w3 ⟨rfl, hb⟩; refine ⟨_, rfl, ?_⟩; have n0_ := Aside0.mk (below_step (by repeat (first | (with_reducible first | exact HB.out | apply below_alloc | apply pw_below_drewN | apply below_drew1) | exact HB.out)) hb); clear HB; have HB := n0_; clear n0_; (try clear hb); (try clear hb2); (try clear hk); (try clear hi)))
  go_ret
  exact ⟨by first | rfl | (simp [errW_none, errW_some] <;> rfl) | (simp [*, errW_none, errW_some] <;> rfl), by repeat (first | (with_reducible first | exact HB.out | apply below_alloc | apply pw_below_drewN | apply below_drew1) | exact HB.out)⟩

/-! ### weak_one: function 85 -/
def weak_one.l0 : Nat → List (S107) → Int → Int → Int → Int → Int → Option (Bool)
  | 0, _, _, _, _, _, _ => none
  | k + 1, x46, x53, x54, x113000, x113001, x113002 => if x54 < x53 then (if 0 ≤ x54 then (if x54 < (x46.length : Int) then (if ((rd_T107 x46 x54).f0) = x113001 then (weak_one.l0 k x46 x53 (wrap64 (x54 + 1)) x113000 x113001 x113002) else (some (decide (x54 ≥ 0)))) else (none)) else (none)) else (some (decide ((-1) ≥ 0)))
def weak_one.f (k : Nat) (a0_0 : Int) (a0_1 : Int) (a0_2 : Int) (l1 : List (S107)) : Option (Bool) := (weak_found.f k l1 a0_2).bind fun t113 => (if a0_0 = 0 then (some ((t113.length : Int) == 0)) else (if a0_0 = 1 then (if (t113.length : Int) > 0 then ((slices_ContainsFunc_weak_one_1.f k t113).bind fun t116 => (some (!t116))) else (some false)) else (if a0_0 = 2 then (some (decide ((t113.length : Int) > 1))) else (if a0_0 = 4 then (weak_one.l0 k t113 (t113.length : Int) 0 a0_0 a0_1 a0_2) else (some false)))))
theorem weak_one.mono_l : ∀ k, (∀ y0 y1 y2 y3 y4 y5, LeO (weak_one.l0 k y0 y1 y2 y3 y4 y5) (weak_one.l0 (k + 1) y0 y1 y2 y3 y4 y5))
  | 0 => fun _ _ _ _ _ _ r h => by simp [weak_one.l0] at h
  | k + 1 => by
    have ih0 := weak_one.mono_l k
    · intro y0 y1 y2 y3 y4 y5
      unfold weak_one.l0
      repeat' first
      | (with_reducible exact ih0 _ _ _ _ _ _)
      | (with_reducible exact slices_ContainsFunc_weak_one_1.mono _ _)
      | (with_reducible exact weak_found.mono _ _ _)
      | (with_reducible exact LeO.refl _)
      | (with_reducible exact LeO.none _)
      | (with_reducible refine LeO.ite ?_ ?_)
      | (with_reducible refine LeO.bind ?_ (fun _ => ?_))
      | exact ih0 _ _ _ _ _ _
      | exact slices_ContainsFunc_weak_one_1.mono _ _
      | exact weak_found.mono _ _ _
      | exact LeO.none _
      | refine LeO.ite ?_ ?_
      | refine LeO.bind ?_ (fun _ => ?_)
theorem weak_one.mono : ∀ a0 a1 a2 a3 k, LeO (weak_one.f k a0 a1 a2 a3) (weak_one.f (k + 1) a0 a1 a2 a3) := by
  intro a0 a1 a2 a3 k
  have ih0 := weak_one.mono_l k
  unfold weak_one.f
  repeat' first
      | (with_reducible exact ih0 _ _ _ _ _ _)
      | (with_reducible exact slices_ContainsFunc_weak_one_1.mono _ _)
      | (with_reducible exact weak_found.mono _ _ _)
      | (with_reducible exact LeO.refl _)
      | (with_reducible exact LeO.none _)
      | (with_reducible refine LeO.ite ?_ ?_)
      | (with_reducible refine LeO.bind ?_ (fun _ => ?_))
      | exact ih0 _ _ _ _ _ _
      | exact slices_ContainsFunc_weak_one_1.mono _ _
      | exact weak_found.mono _ _ _
      | exact LeO.none _
      | refine LeO.ite ?_ ?_
      | refine LeO.bind ?_ (fun _ => ?_)
set_option maxHeartbeats 8000000 in
set_option maxRecDepth 100000 in
theorem weak_one.calls (k : Nat) (a0_0 : Int) (a0_1 : Int) (a0_2 : Int) (A1 : Option Addr) (c1 : Nat) (l1 : List (S107)) (r : Bool) (w : World) (hr1 : Kd.C k107 w A1 l1.length l1) (hc1 : l1.length ≤ c1) (h : weak_one.f k a0_0 a0_1 a0_2 l1 = some r) :
    Calls Try.prog 85 #[.agg #[.int .i64 a0_0, .int .i64 a0_1, .int .i64 a0_2], .slice A1 l1.length c1] w fun e w' => e = .returned (.bool r) ∧ Below w.heap.size w w' := by
  have hu29 := Try.underlying29
  have hu107 := Try.underlying107
  have HR1 := Aside0.mk hr1
  have HC1 := Aside0.mk hc1
  clear hr1 hc1
  have HB := Aside0.mk (Below.refl w.heap.size w)
  have H : ((weak_found.f k l1 a0_2).bind fun t113 => (if a0_0 = 0 then (some ((t113.length : Int) == 0)) else (if a0_0 = 1 then (if (t113.length : Int) > 0 then ((slices_ContainsFunc_weak_one_1.f k t113).bind fun t116 => (some (!t116))) else (some false)) else (if a0_0 = 2 then (some (decide ((t113.length : Int) > 1))) else (if a0_0 = 4 then (weak_one.l0 k t113 (t113.length : Int) 0 a0_0 a0_1 a0_2) else (some false)))))) = some r := h
  clear h
  replace H := Option.bind_eq_some_iff.mp H
  obtain ⟨t113, A30, H⟩ := H
  replace H : (if a0_0 = 0 then (some ((t113.length : Int) == 0)) else (if a0_0 = 1 then (if (t113.length : Int) > 0 then ((slices_ContainsFunc_weak_one_1.f k t113).bind fun t116 => (some (!t116))) else (some false)) else (if a0_0 = 2 then (some (decide ((t113.length : Int) > 1))) else (if a0_0 = 4 then (weak_one.l0 k t113 (t113.length : Int) 0 a0_0 a0_1 a0_2) else (some false))))) = some r := H
  have A3 := Aside0.mk A30
  clear A30
  by_cases c4 : a0_0 = 0
  · rw [if_pos c4] at H
    have c4b0 : (a0_0 == 0) = true := beq_iff_eq.mpr c4
    have c4b1 : (a0_0 != 0) = false := bne_eq_false_iff_eq.mpr c4
    clear c4
    obtain rfl := Option.some.inj H
    go_enter Try.func85, Try.ntmps85
    go_wp2_with (first | ((with_reducible refine gate_dst (N := 2) rfl ?_); refine box_event ?hg (N := 2) ?hd (cs := #[.int .i64 a0_0, .int .i64 a0_1, .int .i64 a0_2]) (t := 29) ?hr ?_; (case hd => rfl); (case hg => rfl); (case hr => first | (go_simp; done) | (go_simp; rfl)); intro gb112 hg w5 hbox hb; have n0_ := Aside0.mk (below_step (by repeat (first | (with_reducible first | exact HB.out | apply below_alloc | apply pw_below_drewN | apply below_drew1) | exact HB.out)) hb); have n1_ := Aside0.mk (hbox); have n2_ := Aside0.mk ((by rw [hg]; exact (below_size (by repeat (first | (with_reducible first | exact HB.out | apply below_alloc | apply pw_below_drewN | apply below_drew1) | exact HB.out))) : w.heap.size ≤ gb112)); have n3_ := Aside0.mk ((by rw [hg]; exact (below_size (by repeat (first | (with_reducible first | exact HB.out | apply below_alloc | apply pw_below_drewN | apply below_drew1) | exact HB.out))) : w.heap.size ≤ gb112)); clear HB; have HB := n0_; have BK112 := n1_; have GW112 := n2_; have GE112 := n3_; clear n0_ n1_ n2_ n3_; clear hb hbox hg; have hcz6_0 : w5.cell? ⟨gb112, 0, none⟩ = some (.int .i64 a0_0) := (blk_cell BK112.out 0).trans rfl; have hcz6_1 : w5.cell? ⟨gb112, 1, none⟩ = some (.int .i64 a0_1) := (blk_cell BK112.out 1).trans rfl; have hcz6_2 : w5.cell? ⟨gb112, 2, none⟩ = some (.int .i64 a0_2) := (blk_cell BK112.out 2).trans rfl; have hfz6_0 := blk_frozen BK112.out 0; have hfz6_1 := blk_frozen BK112.out 1; have hfz6_2 := blk_frozen BK112.out 2) | ((with_reducible refine gate_callee (f := 86) rfl ?_); refine goesL_ (some 9) rfl rfl Try.func86 (by kernel_rfl) rfl #[.slice A1 l1.length c1, .int .i64 a0_2] rfl (by (try simp only [List.map_toArray, List.map_cons, List.map_nil]); first | done | rfl | (simp only [List.length_drop, List.length_take]; rfl)) ?_; (with_reducible refine (weak_found.calls k (fun k_ => k_ < w.heap.size) _ _ l1 a0_2 t113 _ ?side1 A3.out).mono ?_); (case side1 => exact Kd.V_mk HC1.out (Kd.F_below (Kd.C_F k107_heap HR1.out) (by repeat (first | (with_reducible first | exact HB.out | apply below_alloc | apply pw_below_drewN | apply below_drew1 | refine below_set ?_ GE112.out) | exact HB.out)))); rintro e w7 ⟨v114, rfl, ho0, hb⟩; refine ⟨_, rfl, ?_⟩; have n0_ := Aside0.mk (Kd.N_lower (Kd.N_mono (ok' := fun k_ => k_ ≠ gb112) ho0 (fun k_ hk_ => Or.elim hk_ (fun hs_ => fun e_ => Nat.not_le.2 hs_ (by rw [e_]; exact GW112.out)) (fun hn_ => (Kd.freshB (g := gb112) (o := .cells #[.int .i64 a0_0, .int .i64 a0_1, .int .i64 a0_2] 29 (0, 0)) (by (with_reducible repeat (first | refine blk_drewN ?_ _ | refine blk_drew ?_ | refine blk_alloc ?_ _)); exact BK112.out) k_ hn_)))) (below_size (by repeat (first | (with_reducible first | exact HB.out | apply below_alloc | apply pw_below_drewN | apply below_drew1 | refine below_set ?_ GE112.out) | exact HB.out)))); have n1_ := Aside0.mk (blk_below (g := gb112) (o := .cells #[.int .i64 a0_0, .int .i64 a0_1, .int .i64 a0_2] 29 (0, 0)) (by (with_reducible repeat (first | refine blk_drewN ?_ _ | refine blk_drew ?_ | refine blk_alloc ?_ _)); exact BK112.out) hb); have n2_ := Aside0.mk (below_step (by repeat (first | (with_reducible first | exact HB.out | apply below_alloc | apply pw_below_drewN | apply below_drew1 | refine below_set ?_ GE112.out) | exact HB.out)) hb); clear BK112; clear HB; have HO115 := n0_; have BK112 := n1_; have HB := n2_; clear n0_ n1_ n2_; (try clear hb); (try clear hb2); (try clear hk); (try clear hi); (try clear ho0); have hcz8_0 : w7.cell? ⟨gb112, 0, none⟩ = some (.int .i64 a0_0) := (blk_cell BK112.out 0).trans rfl; have hcz8_1 : w7.cell? ⟨gb112, 1, none⟩ = some (.int .i64 a0_1) := (blk_cell BK112.out 1).trans rfl; have hcz8_2 : w7.cell? ⟨gb112, 2, none⟩ = some (.int .i64 a0_2) := (blk_cell BK112.out 2).trans rfl; have hfz8_0 := blk_frozen BK112.out 0; have hfz8_1 := blk_frozen BK112.out 1; have hfz8_2 := blk_frozen BK112.out 2; obtain ⟨Ao9, co9, eo9⟩ := Kd.N_slice HO115.out; subst eo9) | (go_at_call 116; go_in) | (go_at_call 118; go_in) | (go_at_call 123; go_in) | ((try simp only [Exit.inBlock, Exit.then]); refine bodyPost_end (results_none rfl _ _ _) rfl ?_; simp only []; go_at_K) | ((try simp only [Exit.inBlock, Exit.then]); refine bodyPost_ret (results_none rfl _ _ _) rfl ?_; simp only []; go_at_K))
    go_ret
    exact ⟨by first | rfl | (simp [errW_none, errW_some] <;> rfl) | (simp [*, errW_none, errW_some] <;> rfl), by repeat (first | (with_reducible first | exact HB.out | apply below_alloc | apply pw_below_drewN | apply below_drew1 | refine below_set ?_ GE112.out) | exact HB.out)⟩
  · rw [if_neg c4] at H
    have c4b0 : (a0_0 == 0) = false := beq_eq_false_iff_ne.mpr c4
    have c4b1 : (a0_0 != 0) = true := bne_iff_ne.mpr c4
    by_cases c10 : a0_0 = 1
    · rw [if_pos c10] at H
      have c10b0 : (a0_0 == 1) = true := beq_iff_eq.mpr c10
      have c10b1 : (a0_0 != 1) = false := bne_eq_false_iff_eq.mpr c10
      clear c10
      by_cases c11 : (t113.length : Int) > 0
      · rw [if_pos c11] at H
        have c11b0 : decide (0 < (t113.length : Int)) = true := decide_eq_true c11
        have c11b1 : decide (0 < t113.length) = true := decide_eq_true (by omega)
        clear c11
        replace H := Option.bind_eq_some_iff.mp H
        obtain ⟨t116, A120, H⟩ := H
        replace H : (some (!t116)) = some r := H
        have A12 := Aside0.mk A120
        clear A120
        obtain rfl := Option.some.inj H
        go_enter Try.func85, Try.ntmps85
        go_wp2_with (first | ((with_reducible refine gate_dst (N := 2) rfl ?_); refine box_event ?hg (N := 2) ?hd (cs := #[.int .i64 a0_0, .int .i64 a0_1, .int .i64 a0_2]) (t := 29) ?hr ?_; (case hd => rfl); (case hg => rfl); (case hr => first | (go_simp; done) | (go_simp; rfl)); intro gb112 hg w13 hbox hb; have n0_ := Aside0.mk (below_step (by repeat (first | (with_reducible first | exact HB.out | apply below_alloc | apply pw_below_drewN | apply below_drew1) | exact HB.out)) hb); have n1_ := Aside0.mk (hbox); have n2_ := Aside0.mk ((by rw [hg]; exact (below_size (by repeat (first | (with_reducible first | exact HB.out | apply below_alloc | apply pw_below_drewN | apply below_drew1) | exact HB.out))) : w.heap.size ≤ gb112)); have n3_ := Aside0.mk ((by rw [hg]; exact (below_size (by repeat (first | (with_reducible first | exact HB.out | apply below_alloc | apply pw_below_drewN | apply below_drew1) | exact HB.out))) : w.heap.size ≤ gb112)); clear HB; have HB := n0_; have BK112 := n1_; have GW112 := n2_; have GE112 := n3_; clear n0_ n1_ n2_ n3_; clear hb hbox hg; have hcz14_0 : w13.cell? ⟨gb112, 0, none⟩ = some (.int .i64 a0_0) := (blk_cell BK112.out 0).trans rfl; have hcz14_1 : w13.cell? ⟨gb112, 1, none⟩ = some (.int .i64 a0_1) := (blk_cell BK112.out 1).trans rfl; have hcz14_2 : w13.cell? ⟨gb112, 2, none⟩ = some (.int .i64 a0_2) := (blk_cell BK112.out 2).trans rfl; have hfz14_0 := blk_frozen BK112.out 0; have hfz14_1 := blk_frozen BK112.out 1; have hfz14_2 := blk_frozen BK112.out 2) | ((with_reducible refine gate_callee (f := 86) rfl ?_); refine goesL_ (some 9) rfl rfl Try.func86 (by kernel_rfl) rfl #[.slice A1 l1.length c1, .int .i64 a0_2] rfl (by (try simp only [List.map_toArray, List.map_cons, List.map_nil]); first | done | rfl | (simp only [List.length_drop, List.length_take]; rfl)) ?_; (with_reducible refine (weak_found.calls k (fun k_ => k_ < w.heap.size) _ _ l1 a0_2 t113 _ ?side1 A3.out).mono ?_); (case side1 => exact Kd.V_mk HC1.out (Kd.F_below (Kd.C_F k107_heap HR1.out) (by repeat (first | (with_reducible first | exact HB.out | apply below_alloc | apply pw_below_drewN | apply below_drew1 | refine below_set ?_ GE112.out) | exact HB.out)))); rintro e w15 ⟨v114, rfl, ho0, hb⟩; refine ⟨_, rfl, ?_⟩; have n0_ := Aside0.mk (Kd.N_lower (Kd.N_mono (ok' := fun k_ => k_ ≠ gb112) ho0 (fun k_ hk_ => Or.elim hk_ (fun hs_ => fun e_ => Nat.not_le.2 hs_ (by rw [e_]; exact GW112.out)) (fun hn_ => (Kd.freshB (g := gb112) (o := .cells #[.int .i64 a0_0, .int .i64 a0_1, .int .i64 a0_2] 29 (0, 0)) (by (with_reducible repeat (first | refine blk_drewN ?_ _ | refine blk_drew ?_ | refine blk_alloc ?_ _)); exact BK112.out) k_ hn_)))) (below_size (by repeat (first | (with_reducible first | exact HB.out | apply below_alloc | apply pw_below_drewN | apply below_drew1 | refine below_set ?_ GE112.out) | exact HB.out)))); have n1_ := Aside0.mk (blk_below (g := gb112) (o := .cells #[.int .i64 a0_0, .int .i64 a0_1, .int .i64 a0_2] 29 (0, 0)) (by (with_reducible repeat (first | refine blk_drewN ?_ _ | refine blk_drew ?_ | refine blk_alloc ?_ _)); exact BK112.out) hb); have n2_ := Aside0.mk (below_step (by repeat (first | (with_reducible first | exact HB.out | apply below_alloc | apply pw_below_drewN | apply below_drew1 | refine below_set ?_ GE112.out) | exact HB.out)) hb); clear BK112; clear HB; have HO115 := n0_; have BK112 := n1_; have HB := n2_; clear n0_ n1_ n2_; (try clear hb); (try clear hb2); (try clear hk); (try clear hi); (try clear ho0); have hcz16_0 : w15.cell? ⟨gb112, 0, none⟩ = some (.int .i64 a0_0) := (blk_cell BK112.out 0).trans rfl; have hcz16_1 : w15.cell? ⟨gb112, 1, none⟩ = some (.int .i64 a0_1) := (blk_cell BK112.out 1).trans rfl; have hcz16_2 : w15.cell? ⟨gb112, 2, none⟩ = some (.int .i64 a0_2) := (blk_cell BK112.out 2).trans rfl; have hfz16_0 := blk_frozen BK112.out 0; have hfz16_1 := blk_frozen BK112.out 1; have hfz16_2 := blk_frozen BK112.out 2; obtain ⟨Ao17, co17, eo17⟩ := Kd.N_slice HO115.out; subst eo17) | (go_at_call 116; (with_reducible refine (slices_ContainsFunc_weak_one_1.calls k _ _ t113 t116 _ ?side1 ?side2 A12.out).mono ?_); (case side1 => repeat (first | exact (Kd.N_reads' HO115.out).2.2 | (with_reducible refine Kd.C_alloc ?_ _) | (with_reducible refine Kd.C_drewN ?_ _) | (with_reducible refine Kd.C_drew ?_))); (case side2 => exact (Kd.N_reads' HO115.out).2.1); rintro e w18 ⟨rfl, hb⟩; have n0_ := Aside0.mk (Kd.N_below (by (with_reducible repeat (first | apply Kd.N_alloc | apply Kd.N_drewN | apply Kd.N_drew)); exact HO115.out) hb); have n1_ := Aside0.mk (blk_below (g := gb112) (o := .cells #[.int .i64 a0_0, .int .i64 a0_1, .int .i64 a0_2] 29 (0, 0)) (by (with_reducible repeat (first | refine blk_drewN ?_ _ | refine blk_drew ?_ | refine blk_alloc ?_ _)); exact BK112.out) hb); have n2_ := Aside0.mk (below_step (by repeat (first | (with_reducible first | exact HB.out | apply below_alloc | apply pw_below_drewN | apply below_drew1 | refine below_set ?_ GE112.out) | exact HB.out)) hb); clear HO115; clear BK112; clear HB; have HO115 := n0_; have BK112 := n1_; have HB := n2_; clear n0_ n1_ n2_; (try clear hb); (try clear hb2); (try clear hk); (try clear hi)) | (go_at_call 116; go_in) | (go_at_call 118; go_in) | (go_at_call 123; go_in) | ((try simp only [Exit.inBlock, Exit.then]); refine bodyPost_end (results_none rfl _ _ _) rfl ?_; simp only []; go_at_K) | ((try simp only [Exit.inBlock, Exit.then]); refine bodyPost_ret (results_none rfl _ _ _) rfl ?_; simp only []; go_at_K))
        go_ret
        exact ⟨by first | rfl | (simp [errW_none, errW_some] <;> rfl) | (simp [*, errW_none, errW_some] <;> rfl), by repeat (first | (with_reducible first | exact HB.out | apply below_alloc | apply pw_below_drewN | apply below_drew1 | refine below_set ?_ GE112.out) | exact HB.out)⟩
      · rw [if_neg c11] at H
        have c11b0 : decide (0 < (t113.length : Int)) = false := decide_eq_false c11
        have c11b1 : decide (0 < t113.length) = false := decide_eq_false (by omega)
        clear c11
        obtain rfl := Option.some.inj H
        go_enter Try.func85, Try.ntmps85
        go_wp2_with (first | ((with_reducible refine gate_dst (N := 2) rfl ?_); refine box_event ?hg (N := 2) ?hd (cs := #[.int .i64 a0_0, .int .i64 a0_1, .int .i64 a0_2]) (t := 29) ?hr ?_; (case hd => rfl); (case hg => rfl); (case hr => first | (go_simp; done) | (go_simp; rfl)); intro gb112 hg w19 hbox hb; have n0_ := Aside0.mk (below_step (by repeat (first | (with_reducible first | exact HB.out | apply below_alloc | apply pw_below_drewN | apply below_drew1) | exact HB.out)) hb); have n1_ := Aside0.mk (hbox); have n2_ := Aside0.mk ((by rw [hg]; exact (below_size (by repeat (first | (with_reducible first | exact HB.out | apply below_alloc | apply pw_below_drewN | apply below_drew1) | exact HB.out))) : w.heap.size ≤ gb112)); have n3_ := Aside0.mk ((by rw [hg]; exact (below_size (by repeat (first | (with_reducible first | exact HB.out | apply below_alloc | apply pw_below_drewN | apply below_drew1) | exact HB.out))) : w.heap.size ≤ gb112)); clear HB; have HB := n0_; have BK112 := n1_; have GW112 := n2_; have GE112 := n3_; clear n0_ n1_ n2_ n3_; clear hb hbox hg; have hcz20_0 : w19.cell? ⟨gb112, 0, none⟩ = some (.int .i64 a0_0) := (blk_cell BK112.out 0).trans rfl; have hcz20_1 : w19.cell? ⟨gb112, 1, none⟩ = some (.int .i64 a0_1) := (blk_cell BK112.out 1).trans rfl; have hcz20_2 : w19.cell? ⟨gb112, 2, none⟩ = some (.int .i64 a0_2) := (blk_cell BK112.out 2).trans rfl; have hfz20_0 := blk_frozen BK112.out 0; have hfz20_1 := blk_frozen BK112.out 1; have hfz20_2 := blk_frozen BK112.out 2) | ((with_reducible refine gate_callee (f := 86) rfl ?_); refine goesL_ (some 9) rfl rfl Try.func86 (by kernel_rfl) rfl #[.slice A1 l1.length c1, .int .i64 a0_2] rfl (by (try simp only [List.map_toArray, List.map_cons, List.map_nil]); first | done | rfl | (simp only [List.length_drop, List.length_take]; rfl)) ?_; (with_reducible refine (weak_found.calls k (fun k_ => k_ < w.heap.size) _ _ l1 a0_2 t113 _ ?side1 A3.out).mono ?_); (case side1 => exact Kd.V_mk HC1.out (Kd.F_below (Kd.C_F k107_heap HR1.out) (by repeat (first | (with_reducible first | exact HB.out | apply below_alloc | apply pw_below_drewN | apply below_drew1 | refine below_set ?_ GE112.out) | exact HB.out)))); rintro e w21 ⟨v114, rfl, ho0, hb⟩; refine ⟨_, rfl, ?_⟩; have n0_ := Aside0.mk (Kd.N_lower (Kd.N_mono (ok' := fun k_ => k_ ≠ gb112) ho0 (fun k_ hk_ => Or.elim hk_ (fun hs_ => fun e_ => Nat.not_le.2 hs_ (by rw [e_]; exact GW112.out)) (fun hn_ => (Kd.freshB (g := gb112) (o := .cells #[.int .i64 a0_0, .int .i64 a0_1, .int .i64 a0_2] 29 (0, 0)) (by (with_reducible repeat (first | refine blk_drewN ?_ _ | refine blk_drew ?_ | refine blk_alloc ?_ _)); exact BK112.out) k_ hn_)))) (below_size (by repeat (first | (with_reducible first | exact HB.out | apply below_alloc | apply pw_below_drewN | apply below_drew1 | refine below_set ?_ GE112.out) | exact HB.out)))); have n1_ := Aside0.mk (blk_below (g := gb112) (o := .cells #[.int .i64 a0_0, .int .i64 a0_1, .int .i64 a0_2] 29 (0, 0)) (by (with_reducible repeat (first | refine blk_drewN ?_ _ | refine blk_drew ?_ | refine blk_alloc ?_ _)); exact BK112.out) hb); have n2_ := Aside0.mk (below_step (by repeat (first | (with_reducible first | exact HB.out | apply below_alloc | apply pw_below_drewN | apply below_drew1 | refine below_set ?_ GE112.out) | exact HB.out)) hb); clear BK112; clear HB; have HO115 := n0_; have BK112 := n1_; have HB := n2_; clear n0_ n1_ n2_; (try clear hb); (try clear hb2); (try clear hk); (try clear hi); (try clear ho0); have hcz22_0 : w21.cell? ⟨gb112, 0, none⟩ = some (.int .i64 a0_0) := (blk_cell BK112.out 0).trans rfl; have hcz22_1 : w21.cell? ⟨gb112, 1, none⟩ = some (.int .i64 a0_1) := (blk_cell BK112.out 1).trans rfl; have hcz22_2 : w21.cell? ⟨gb112, 2, none⟩ = some (.int .i64 a0_2) := (blk_cell BK112.out 2).trans rfl; have hfz22_0 := blk_frozen BK112.out 0; have hfz22_1 := blk_frozen BK112.out 1; have hfz22_2 := blk_frozen BK112.out 2; obtain ⟨Ao23, co23, eo23⟩ := Kd.N_slice HO115.out; subst eo23) | (go_at_call 116; go_in) | (go_at_call 118; go_in) | (go_at_call 123; go_in) | ((try simp only [Exit.inBlock, Exit.then]); refine bodyPost_end (results_none rfl _ _ _) rfl ?_; simp only []; go_at_K) | ((try simp only [Exit.inBlock, Exit.then]); refine bodyPost_ret (results_none rfl _ _ _) rfl ?_; simp only []; go_at_K))
        go_ret
        exact ⟨by first | rfl | (simp [errW_none, errW_some] <;> rfl) | (simp [*, errW_none, errW_some] <;> rfl), by repeat (first | (with_reducible first | exact HB.out | apply below_alloc | apply pw_below_drewN | apply below_drew1 | refine below_set ?_ GE112.out) | exact HB.out)⟩
    · rw [if_neg c10] at H
      have c10b0 : (a0_0 == 1) = false := beq_eq_false_iff_ne.mpr c10
      have c10b1 : (a0_0 != 1) = true := bne_iff_ne.mpr c10
      by_cases c24 : a0_0 = 2
      · rw [if_pos c24] at H
        have c24b0 : (a0_0 == 2) = true := beq_iff_eq.mpr c24
        have c24b1 : (a0_0 != 2) = false := bne_eq_false_iff_eq.mpr c24
        clear c24
        obtain rfl := Option.some.inj H
        go_enter Try.func85, Try.ntmps85
        go_wp2_with (first | ((with_reducible refine gate_dst (N := 2) rfl ?_); refine box_event ?hg (N := 2) ?hd (cs := #[.int .i64 a0_0, .int .i64 a0_1, .int .i64 a0_2]) (t := 29) ?hr ?_; (case hd => rfl); (case hg => rfl); (case hr => first | (go_simp; done) | (go_simp; rfl)); intro gb112 hg w25 hbox hb; have n0_ := Aside0.mk (below_step (by repeat (first | (with_reducible first | exact HB.out | apply below_alloc | apply pw_below_drewN | apply below_drew1) | exact HB.out)) hb); have n1_ := Aside0.mk (hbox); have n2_ := Aside0.mk ((by rw [hg]; exact (below_size (by repeat (first | (with_reducible first | exact HB.out | apply below_alloc | apply pw_below_drewN | apply below_drew1) | exact HB.out))) : w.heap.size ≤ gb112)); have n3_ := Aside0.mk ((by rw [hg]; exact (below_size (by repeat (first | (with_reducible first | exact HB.out | apply below_alloc | apply pw_below_drewN | apply below_drew1) | exact HB.out))) : w.heap.size ≤ gb112)); clear HB; have HB := n0_; have BK112 := n1_; have GW112 := n2_; have GE112 := n3_; clear n0_ n1_ n2_ n3_; clear hb hbox hg; have hcz26_0 : w25.cell? ⟨gb112, 0, none⟩ = some (.int .i64 a0_0) := (blk_cell BK112.out 0).trans rfl; have hcz26_1 : w25.cell? ⟨gb112, 1, none⟩ = some (.int .i64 a0_1) := (blk_cell BK112.out 1).trans rfl; have hcz26_2 : w25.cell? ⟨gb112, 2, none⟩ = some (.int .i64 a0_2) := (blk_cell BK112.out 2).trans rfl; have hfz26_0 := blk_frozen BK112.out 0; have hfz26_1 := blk_frozen BK112.out 1; have hfz26_2 := blk_frozen BK112.out 2) | ((with_reducible refine gate_callee (f := 86) rfl ?_); refine goesL_ (some 9) rfl rfl Try.func86 (by kernel_rfl) rfl #[.slice A1 l1.length c1, .int .i64 a0_2] rfl (by (try simp only [List.map_toArray, List.map_cons, List.map_nil]); first | done | rfl | (simp only [List.length_drop, List.length_take]; rfl)) ?_; (with_reducible refine (weak_found.calls k (fun k_ => k_ < w.heap.size) _ _ l1 a0_2 t113 _ ?side1 A3.out).mono ?_); (case side1 => exact Kd.V_mk HC1.out (Kd.F_below (Kd.C_F k107_heap HR1.out) (by repeat (first | (with_reducible first | exact HB.out | apply below_alloc | apply pw_below_drewN | apply below_drew1 | refine below_set ?_ GE112.out) | exact HB.out)))); rintro e w27 ⟨v114, rfl, ho0, hb⟩; refine ⟨_, rfl, ?_⟩; have n0_ := Aside0.mk (Kd.N_lower (Kd.N_mono (ok' := fun k_ => k_ ≠ gb112) ho0 (fun k_ hk_ => Or.elim hk_ (fun hs_ => fun e_ => Nat.not_le.2 hs_ (by rw [e_]; exact GW112.out)) (fun hn_ => (Kd.freshB (g := gb112) (o := .cells #[.int .i64 a0_0, .int .i64 a0_1, .int .i64 a0_2] 29 (0, 0)) (by (with_reducible repeat (first | refine blk_drewN ?_ _ | refine blk_drew ?_ | refine blk_alloc ?_ _)); exact BK112.out) k_ hn_)))) (below_size (by repeat (first | (with_reducible first | exact HB.out | apply below_alloc | apply pw_below_drewN | apply below_drew1 | refine below_set ?_ GE112.out) | exact HB.out)))); have n1_ := Aside0.mk (blk_below (g := gb112) (o := .cells #[.int .i64 a0_0, .int .i64 a0_1, .int .i64 a0_2] 29 (0, 0)) (by (with_reducible repeat (first | refine blk_drewN ?_ _ | refine blk_drew ?_ | refine blk_alloc ?_ _)); exact BK112.out) hb); have n2_ := Aside0.mk (below_step (by repeat (first | (with_reducible first | exact HB.out | apply below_alloc | apply pw_below_drewN | apply below_drew1 | refine below_set ?_ GE112.out) | exact HB.out)) hb); clear BK112; clear HB; have HO115 := n0_; have BK112 := n1_; have HB := n2_; clear n0_ n1_ n2_; (try clear hb); (try clear hb2); (try clear hk); (try clear hi); (try clear ho0); have hcz28_0 : w27.cell? ⟨gb112, 0, none⟩ = some (.int .i64 a0_0) := (blk_cell BK112.out 0).trans rfl; have hcz28_1 : w27.cell? ⟨gb112, 1, none⟩ = some (.int .i64 a0_1) := (blk_cell BK112.out 1).trans rfl; have hcz28_2 : w27.cell? ⟨gb112, 2, none⟩ = some (.int .i64 a0_2) := (blk_cell BK112.out 2).trans rfl; have hfz28_0 := blk_frozen BK112.out 0; have hfz28_1 := blk_frozen BK112.out 1; have hfz28_2 := blk_frozen BK112.out 2; obtain ⟨Ao29, co29, eo29⟩ := Kd.N_slice HO115.out; subst eo29) | (go_at_call 116; go_in) | (go_at_call 118; go_in) | (go_at_call 123; go_in) | ((try simp only [Exit.inBlock, Exit.then]); refine bodyPost_end (results_none rfl _ _ _) rfl ?_; simp only []; go_at_K) | ((try simp only [Exit.inBlock, Exit.then]); refine bodyPost_ret (results_none rfl _ _ _) rfl ?_; simp only []; go_at_K))
        go_ret
        exact ⟨by first | rfl | (simp [errW_none, errW_some] <;> rfl) | (simp [*, errW_none, errW_some] <;> rfl), by repeat (first | (with_reducible first | exact HB.out | apply below_alloc | apply pw_below_drewN | apply below_drew1 | refine below_set ?_ GE112.out) | exact HB.out)⟩
      · rw [if_neg c24] at H
        have c24b0 : (a0_0 == 2) = false := beq_eq_false_iff_ne.mpr c24
        have c24b1 : (a0_0 != 2) = true := bne_iff_ne.mpr c24
        by_cases c30 : a0_0 = 4
        · rw [if_pos c30] at H
          have c30b0 : (a0_0 == 4) = true := beq_iff_eq.mpr c30
          have c30b1 : (a0_0 != 4) = false := bne_eq_false_iff_eq.mpr c30
          clear c30
          have H' := Aside0.mk H
          clear H
          go_enter Try.func85, Try.ntmps85
          go_wp2_with (first | ((with_reducible refine gate_dst (N := 2) rfl ?_); refine box_event ?hg (N := 2) ?hd (cs := #[.int .i64 a0_0, .int .i64 a0_1, .int .i64 a0_2]) (t := 29) ?hr ?_; (case hd => rfl); (case hg => rfl); (case hr => first | (go_simp; done) | (go_simp; rfl)); intro gb112 hg w31 hbox hb; have n0_ := Aside0.mk (below_step (by repeat (first | (with_reducible first | exact HB.out | apply below_alloc | apply pw_below_drewN | apply below_drew1) | exact HB.out)) hb); have n1_ := Aside0.mk (hbox); have n2_ := Aside0.mk ((by rw [hg]; exact (below_size (by repeat (first | (with_reducible first | exact HB.out | apply below_alloc | apply pw_below_drewN | apply below_drew1) | exact HB.out))) : w.heap.size ≤ gb112)); have n3_ := Aside0.mk ((by rw [hg]; exact (below_size (by repeat (first | (with_reducible first | exact HB.out | apply below_alloc | apply pw_below_drewN | apply below_drew1) | exact HB.out))) : w.heap.size ≤ gb112)); clear HB; have HB := n0_; have BK112 := n1_; have GW112 := n2_; have GE112 := n3_; clear n0_ n1_ n2_ n3_; clear hb hbox hg; have hcz32_0 : w31.cell? ⟨gb112, 0, none⟩ = some (.int .i64 a0_0) := (blk_cell BK112.out 0).trans rfl; have hcz32_1 : w31.cell? ⟨gb112, 1, none⟩ = some (.int .i64 a0_1) := (blk_cell BK112.out 1).trans rfl; have hcz32_2 : w31.cell? ⟨gb112, 2, none⟩ = some (.int .i64 a0_2) := (blk_cell BK112.out 2).trans rfl; have hfz32_0 := blk_frozen BK112.out 0; have hfz32_1 := blk_frozen BK112.out 1; have hfz32_2 := blk_frozen BK112.out 2) | ((with_reducible refine gate_callee (f := 86) rfl ?_); refine goesL_ (some 9) rfl rfl Try.func86 (by kernel_rfl) rfl #[.slice A1 l1.length c1, .int .i64 a0_2] rfl (by (try simp only [List.map_toArray, List.map_cons, List.map_nil]); first | done | rfl | (simp only [List.length_drop, List.length_take]; rfl)) ?_; (with_reducible refine (weak_found.calls k (fun k_ => k_ < w.heap.size) _ _ l1 a0_2 t113 _ ?side1 A3.out).mono ?_); (case side1 => exact Kd.V_mk HC1.out (Kd.F_below (Kd.C_F k107_heap HR1.out) (by repeat (first | (with_reducible first | exact HB.out | apply below_alloc | apply pw_below_drewN | apply below_drew1 | refine below_set ?_ GE112.out) | exact HB.out)))); rintro e w33 ⟨v114, rfl, ho0, hb⟩; refine ⟨_, rfl, ?_⟩; have n0_ := Aside0.mk (Kd.N_lower (Kd.N_mono (ok' := fun k_ => k_ ≠ gb112) ho0 (fun k_ hk_ => Or.elim hk_ (fun hs_ => fun e_ => Nat.not_le.2 hs_ (by rw [e_]; exact GW112.out)) (fun hn_ => (Kd.freshB (g := gb112) (o := .cells #[.int .i64 a0_0, .int .i64 a0_1, .int .i64 a0_2] 29 (0, 0)) (by (with_reducible repeat (first | refine blk_drewN ?_ _ | refine blk_drew ?_ | refine blk_alloc ?_ _)); exact BK112.out) k_ hn_)))) (below_size (by repeat (first | (with_reducible first | exact HB.out | apply below_alloc | apply pw_below_drewN | apply below_drew1 | refine below_set ?_ GE112.out) | exact HB.out)))); have n1_ := Aside0.mk (blk_below (g := gb112) (o := .cells #[.int .i64 a0_0, .int .i64 a0_1, .int .i64 a0_2] 29 (0, 0)) (by (with_reducible repeat (first | refine blk_drewN ?_ _ | refine blk_drew ?_ | refine blk_alloc ?_ _)); exact BK112.out) hb); have n2_ := Aside0.mk (below_step (by repeat (first | (with_reducible first | exact HB.out | apply below_alloc | apply pw_below_drewN | apply below_drew1 | refine below_set ?_ GE112.out) | exact HB.out)) hb); clear BK112; clear HB; have HO115 := n0_; have BK112 := n1_; have HB := n2_; clear n0_ n1_ n2_; (try clear hb); (try clear hb2); (try clear hk); (try clear hi); (try clear ho0); have hcz34_0 : w33.cell? ⟨gb112, 0, none⟩ = some (.int .i64 a0_0) := (blk_cell BK112.out 0).trans rfl; have hcz34_1 : w33.cell? ⟨gb112, 1, none⟩ = some (.int .i64 a0_1) := (blk_cell BK112.out 1).trans rfl; have hcz34_2 : w33.cell? ⟨gb112, 2, none⟩ = some (.int .i64 a0_2) := (blk_cell BK112.out 2).trans rfl; have hfz34_0 := blk_frozen BK112.out 0; have hfz34_1 := blk_frozen BK112.out 1; have hfz34_2 := blk_frozen BK112.out 2; obtain ⟨Ao35, co35, eo35⟩ := Kd.N_slice HO115.out; subst eo35) | (go_at_call 116; go_in) | (go_at_call 118; go_in) | (go_at_call 123; go_in) | ((try simp only [Exit.inBlock, Exit.then]); refine bodyPost_end (results_none rfl _ _ _) rfl ?_; simp only []; go_at_K) | ((try simp only [Exit.inBlock, Exit.then]); refine bodyPost_ret (results_none rfl _ _ _) rfl ?_; simp only []; go_at_K))
          go_loopg [8] k (fun kq v54 w' => ∃ (x54_1 : Int), v54 = .int .i64 x54_1 ∧ Aside0 (weak_one.l0 kq t113 (t113.length : Int) x54_1 a0_0 a0_1 a0_2 = some r) ∧ Aside0 (kq ≤ k) ∧ Aside0 (Kd.N k107 107 w' w.heap.size (fun k_ => k_ ≠ gb112) (.slice Ao35 t113.length co35) t113) ∧ Aside0 (w'.heap[gb112]? = some (.cells #[.int .i64 a0_0, .int .i64 a0_1, .int .i64 a0_2] 29 (0, 0))) ∧ Aside0 (Below w.heap.size w w'))
          case atStart => exact ⟨(0), (by first | rfl | (simp; done) | (simp [*]; done)), H', ⟨Nat.le_refl _⟩, ⟨by (with_reducible repeat (first | apply Kd.N_alloc | apply Kd.N_drewN | apply Kd.N_drew)); exact HO115.out⟩, ⟨by (with_reducible repeat (first | refine blk_drewN ?_ _ | refine blk_drew ?_ | refine blk_alloc ?_ _)); exact BK112.out⟩, ⟨by repeat (first | (with_reducible first | exact HB.out | apply below_alloc | apply pw_below_drewN | apply below_drew1 | refine below_set ?_ GE112.out) | exact HB.out)⟩⟩
          case round =>
            clear H'
            try clear c1
            try clear c2
            try clear p2
            try clear c3
            try clear c4
            try clear c4b0
            try clear c4b1
            try clear c8
            try clear c10
            try clear c10b0
            try clear c10b1
            try clear c11
            try clear c11b0
            try clear c11b1
            try clear c24
            try clear c24b0
            try clear c24b1
            try clear c30
            try clear c30b0
            try clear c30b1
            try clear hcz14_0
            try clear hcz14_1
            try clear hcz14_2
            try clear hcz16_0
            try clear hcz16_1
            try clear hcz16_2
            try clear hcz20_0
            try clear hcz20_1
            try clear hcz20_2
            try clear hcz22_0
            try clear hcz22_1
            try clear hcz22_2
            try clear hcz26_0
            try clear hcz26_1
            try clear hcz26_2
            try clear hcz28_0
            try clear hcz28_1
            try clear hcz28_2
            try clear hcz32_0
            try clear hcz32_1
            try clear hcz32_2
            try clear hcz34_0
            try clear hcz34_1
            try clear hcz34_2
            try clear hcz6_0
            try clear hcz6_1
            try clear hcz6_2
            try clear hcz8_0
            try clear hcz8_1
            try clear hcz8_2
            try clear hfz14_0
            try clear hfz14_1
            try clear hfz14_2
            try clear hfz16_0
            try clear hfz16_1
            try clear hfz16_2
            try clear hfz20_0
            try clear hfz20_1
            try clear hfz20_2
            try clear hfz22_0
            try clear hfz22_1
            try clear hfz22_2
            try clear hfz26_0
            try clear hfz26_1
            try clear hfz26_2
            try clear hfz28_0
            try clear hfz28_1
            try clear hfz28_2
            try clear hfz32_0
            try clear hfz32_1
            try clear hfz32_2
            try clear hfz34_0
            try clear hfz34_1
            try clear hfz34_2
            try clear hfz6_0
            try clear hfz6_1
            try clear hfz6_2
            try clear hfz8_0
            try clear hfz8_1
            try clear hfz8_2
            obtain ⟨x54_1, rfl, HA, HK1, HO_46, BK112, HB⟩ := hrel
            cases gk with
            | zero => exact absurd HA.out (by simp [weak_one.l0])
            | succ k1 =>
              have H := HA.out
              clear HA
              simp only [weak_one.l0] at H
              by_cases c36 : x54_1 < (t113.length : Int)
              · rw [if_pos c36] at H
                have c36b0 : decide (x54_1 < (t113.length : Int)) = true := decide_eq_true c36
                clear c36
                by_cases c37 : 0 ≤ x54_1
                · rw [if_pos c37] at H
                  have c37b0 : decide (0 ≤ x54_1) = true := decide_eq_true c37
                  clear c37
                  by_cases c38 : x54_1 < (t113.length : Int)
                  · rw [if_pos c38] at H
                    have c38b0 : decide (x54_1 < (t113.length : Int)) = true := decide_eq_true c38
                    clear c38
                    by_cases c39 : ((rd_T107 t113 x54_1).f0) = a0_1
                    · rw [if_pos c39] at H
                      have c39b0 : (((rd_T107 t113 x54_1).f0) == a0_1) = true := beq_iff_eq.mpr c39
                      have c39b1 : (((rd_T107 t113 x54_1).f0) != a0_1) = false := bne_eq_false_iff_eq.mpr c39
                      clear c39
                      have H' := Aside0.mk H
                      clear H
                      have p117 : 0 ≤ (x54_1 : Int) := of_decide_eq_true (by first | (with_reducible assumption) | assumption)
                      have q117 : x54_1 < (t113.length : Int) := of_decide_eq_true (by first | (with_reducible assumption) | assumption)
                      obtain ⟨ad117, A117_2, c117_2, e117, hx117_0, hx117_1, hx117_2, hx117_3, hl117_2, hi117_2⟩ := at_T107 (Kd.N_reads' HO_46.out).2.2 x54_1 p117 q117
                      cases e117
                      obtain ⟨ce117, hce117, hMe117, hcc117⟩ := Kd.N_get HO_46.out z107 x54_1 p117 (by first | exact q117 | exact of_decide_eq_true (by first | (with_reducible assumption) | assumption) | (have e_ := (Kd.N_reads' HO_46.out).1; omega))
                      obtain ⟨ua117_2, uc117_2, rfl, ul117_2, ge117_2⟩ := k107_openF hMe117
                      have hv117_2 := hcc117 2 _ rfl
                      rw [add_field _ _ 2 (by omega)] at hv117_2
                      replace hv117_2 := Option.some.inj (hv117_2.symm.trans hx117_2)
                      injection hv117_2 with hva_ hvn_ hvc_
                      rw [hva_] at ge117_2
                      rw [hvc_] at ul117_2
                      have HL117_2 := Aside0.mk (show Kd.V (Kd.int .u8) 5 _ w.heap.size _ _ ((rd_T107 t113 x54_1).f2) from Kd.V_mk ul117_2 ge117_2)
                      clear hva_ hvn_ hvc_ ge117_2 ul117_2
                      clear hcc117 hce117
                      have HR117_2 := Aside0.mk hi117_2
                      have HC117_2 := Aside0.mk hl117_2
                      clear hi117_2 hl117_2
                      replace p117 := eq_true p117
                      replace q117 := eq_true q117
                      go_wp2_with (first | ((with_reducible refine gate_dst (N := 2) rfl ?_); refine box_event ?hg (N := 2) ?hd (cs := #[.int .i64 ((rd_T107 t113 x54_1).f0), .int .i64 ((rd_T107 t113 x54_1).f1), .slice A117_2 ((rd_T107 t113 x54_1).f2).length c117_2, .bool ((rd_T107 t113 x54_1).f3)]) (t := 107) ?hr ?_; (case hd => rfl); (case hg => rfl); (case hr => first | (go_simp; done) | (go_simp; rfl)); intro gb118 hg w40 hbox hb; have n0_ := Aside0.mk (Kd.N_below (Kd.N_elderB (by (with_reducible repeat (first | apply Kd.N_alloc | apply Kd.N_drewN | apply Kd.N_drew)); exact HO_46.out) gb118 (Nat.le_of_eq hg.symm)) hb); have n1_ := Aside0.mk (Kd.V_below (Kd.V_elderB (by (with_reducible repeat (first | apply Kd.V_alloc | apply Kd.V_drewN | apply Kd.V_drew)); exact HL117_2.out) gb118 (Nat.le_of_eq hg.symm)) hb); have n2_ := Aside0.mk (blk_below (g := gb112) (o := .cells #[.int .i64 a0_0, .int .i64 a0_1, .int .i64 a0_2] 29 (0, 0)) (by (with_reducible repeat (first | refine blk_drewN ?_ _ | refine blk_drew ?_ | refine blk_alloc ?_ _)); exact BK112.out) hb); have n3_ := Aside0.mk (Kd.C_below (by repeat (first | (with_reducible exact HR117_2.out) | (with_reducible refine Kd.C_alloc ?_ _) | (with_reducible refine Kd.C_drewN ?_ _) | (with_reducible refine Kd.C_drew ?_) | exact HR117_2.out)) hb); have n4_ := Aside0.mk (below_step (by repeat (first | (with_reducible first | exact HB.out | apply below_alloc | apply pw_below_drewN | apply below_drew1 | refine below_set ?_ GE112.out) | exact HB.out)) hb); have n5_ := Aside0.mk (hbox); have n6_ := Aside0.mk ((by rw [hg]; exact (below_size (by repeat (first | (with_reducible first | exact HB.out | apply below_alloc | apply pw_below_drewN | apply below_drew1 | refine below_set ?_ GE112.out) | exact HB.out))) : w.heap.size ≤ gb118)); have n7_ := Aside0.mk ((by rw [hg]; exact (below_size (by repeat (first | (with_reducible first | exact HB.out | apply below_alloc | apply pw_below_drewN | apply below_drew1 | refine below_set ?_ GE112.out) | exact HB.out))) : w.heap.size ≤ gb118)); have n8_ := Aside0.mk ((by rw [hg]; exact Nat.ne_of_lt (blk_lt (g := gb112) (o := .cells #[.int .i64 a0_0, .int .i64 a0_1, .int .i64 a0_2] 29 (0, 0)) (by (with_reducible repeat (first | refine blk_drewN ?_ _ | refine blk_drew ?_ | refine blk_alloc ?_ _)); exact BK112.out)) : gb112 ≠ gb118)); have n9_ := Aside0.mk ((by rw [hg]; exact Nat.ne_of_gt (blk_lt (g := gb112) (o := .cells #[.int .i64 a0_0, .int .i64 a0_1, .int .i64 a0_2] 29 (0, 0)) (by (with_reducible repeat (first | refine blk_drewN ?_ _ | refine blk_drew ?_ | refine blk_alloc ?_ _)); exact BK112.out)) : gb118 ≠ gb112)); clear HO_46; clear HL117_2; clear BK112; clear HR117_2; clear HB; have HO_46 := n0_; have HL117_2 := n1_; have BK112 := n2_; have HR117_2 := n3_; have HB := n4_; have BK118 := n5_; have GW118 := n6_; have GE118 := n7_; have NB112_118 := n8_; have NB118_112 := n9_; clear n0_ n1_ n2_ n3_ n4_ n5_ n6_ n7_ n8_ n9_; clear hb hbox hg; have hnb41 := NB118_112.out; have hnc41 := NB112_118.out; have hcz42_0 : w40.cell? ⟨gb118, 0, none⟩ = some (.int .i64 ((rd_T107 t113 x54_1).f0)) := (blk_cell BK118.out 0).trans rfl; have hcz42_1 : w40.cell? ⟨gb118, 1, none⟩ = some (.int .i64 ((rd_T107 t113 x54_1).f1)) := (blk_cell BK118.out 1).trans rfl; have hcz42_2 : w40.cell? ⟨gb118, 2, none⟩ = some (.slice A117_2 ((rd_T107 t113 x54_1).f2).length c117_2) := (blk_cell BK118.out 2).trans rfl; have hcz42_3 : w40.cell? ⟨gb118, 3, none⟩ = some (.bool ((rd_T107 t113 x54_1).f3)) := (blk_cell BK118.out 3).trans rfl; have hfz42_0 := blk_frozen BK118.out 0; have hfz42_1 := blk_frozen BK118.out 1; have hfz42_2 := blk_frozen BK118.out 2; have hfz42_3 := blk_frozen BK118.out 3; have hcz43_0 : w40.cell? ⟨gb112, 0, none⟩ = some (.int .i64 a0_0) := (blk_cell BK112.out 0).trans rfl; have hcz43_1 : w40.cell? ⟨gb112, 1, none⟩ = some (.int .i64 a0_1) := (blk_cell BK112.out 1).trans rfl; have hcz43_2 : w40.cell? ⟨gb112, 2, none⟩ = some (.int .i64 a0_2) := (blk_cell BK112.out 2).trans rfl; have hfz43_0 := blk_frozen BK112.out 0; have hfz43_1 := blk_frozen BK112.out 1; have hfz43_2 := blk_frozen BK112.out 2) | (go_at_call 116; go_in) | (go_at_call 118; go_in) | (go_at_call 123; go_in) | ((try simp only [Exit.inBlock, Exit.then]); refine bodyPost_end (results_none rfl _ _ _) rfl ?_; simp only []; go_at_K) | ((try simp only [Exit.inBlock, Exit.then]); refine bodyPost_ret (results_none rfl _ _ _) rfl ?_; simp only []; go_at_K))
                      go_roundg k1
                      case measure => have := HK1.out; omega
                      case rel => exact ⟨(wrap64 (x54_1 + 1)), (by first | rfl | (simp; done) | (simp [*]; done)), H', ⟨by have := HK1.out; omega⟩, ⟨by (with_reducible repeat (first | apply Kd.N_alloc | apply Kd.N_drewN | apply Kd.N_drew)); exact Kd.N_mono HO_46.out (fun _ hk => hk.1)⟩, ⟨by (with_reducible repeat (first | refine blk_drewN ?_ _ | refine blk_drew ?_ | refine blk_alloc ?_ _)); exact BK112.out⟩, ⟨by repeat (first | (with_reducible first | exact HB.out | apply below_alloc | apply pw_below_drewN | apply below_drew1 | refine below_set ?_ GE112.out | refine below_set ?_ GE118.out) | exact HB.out)⟩⟩
                    · rw [if_neg c39] at H
                      have c39b0 : (((rd_T107 t113 x54_1).f0) == a0_1) = false := beq_eq_false_iff_ne.mpr c39
                      have c39b1 : (((rd_T107 t113 x54_1).f0) != a0_1) = true := bne_iff_ne.mpr c39
                      obtain rfl := Option.some.inj H
                      have p117 : 0 ≤ (x54_1 : Int) := of_decide_eq_true (by first | (with_reducible assumption) | assumption)
                      have q117 : x54_1 < (t113.length : Int) := of_decide_eq_true (by first | (with_reducible assumption) | assumption)
                      obtain ⟨ad117, A117_2, c117_2, e117, hx117_0, hx117_1, hx117_2, hx117_3, hl117_2, hi117_2⟩ := at_T107 (Kd.N_reads' HO_46.out).2.2 x54_1 p117 q117
                      cases e117
                      obtain ⟨ce117, hce117, hMe117, hcc117⟩ := Kd.N_get HO_46.out z107 x54_1 p117 (by first | exact q117 | exact of_decide_eq_true (by first | (with_reducible assumption) | assumption) | (have e_ := (Kd.N_reads' HO_46.out).1; omega))
                      obtain ⟨ua117_2, uc117_2, rfl, ul117_2, ge117_2⟩ := k107_openF hMe117
                      have hv117_2 := hcc117 2 _ rfl
                      rw [add_field _ _ 2 (by omega)] at hv117_2
                      replace hv117_2 := Option.some.inj (hv117_2.symm.trans hx117_2)
                      injection hv117_2 with hva_ hvn_ hvc_
                      rw [hva_] at ge117_2
                      rw [hvc_] at ul117_2
                      have HL117_2 := Aside0.mk (show Kd.V (Kd.int .u8) 5 _ w.heap.size _ _ ((rd_T107 t113 x54_1).f2) from Kd.V_mk ul117_2 ge117_2)
                      clear hva_ hvn_ hvc_ ge117_2 ul117_2
                      clear hcc117 hce117
                      have HR117_2 := Aside0.mk hi117_2
                      have HC117_2 := Aside0.mk hl117_2
                      clear hi117_2 hl117_2
                      replace p117 := eq_true p117
                      replace q117 := eq_true q117
                      go_wp2_with (first | ((with_reducible refine gate_dst (N := 2) rfl ?_); refine box_event ?hg (N := 2) ?hd (cs := #[.int .i64 ((rd_T107 t113 x54_1).f0), .int .i64 ((rd_T107 t113 x54_1).f1), .slice A117_2 ((rd_T107 t113 x54_1).f2).length c117_2, .bool ((rd_T107 t113 x54_1).f3)]) (t := 107) ?hr ?_; (case hd => rfl); (case hg => rfl); (case hr => first | (go_simp; done) | (go_simp; rfl)); intro gb118 hg w44 hbox hb; have n0_ := Aside0.mk (Kd.N_below (Kd.N_elderB (by (with_reducible repeat (first | apply Kd.N_alloc | apply Kd.N_drewN | apply Kd.N_drew)); exact HO_46.out) gb118 (Nat.le_of_eq hg.symm)) hb); have n1_ := Aside0.mk (Kd.V_below (Kd.V_elderB (by (with_reducible repeat (first | apply Kd.V_alloc | apply Kd.V_drewN | apply Kd.V_drew)); exact HL117_2.out) gb118 (Nat.le_of_eq hg.symm)) hb); have n2_ := Aside0.mk (blk_below (g := gb112) (o := .cells #[.int .i64 a0_0, .int .i64 a0_1, .int .i64 a0_2] 29 (0, 0)) (by (with_reducible repeat (first | refine blk_drewN ?_ _ | refine blk_drew ?_ | refine blk_alloc ?_ _)); exact BK112.out) hb); have n3_ := Aside0.mk (Kd.C_below (by repeat (first | (with_reducible exact HR117_2.out) | (with_reducible refine Kd.C_alloc ?_ _) | (with_reducible refine Kd.C_drewN ?_ _) | (with_reducible refine Kd.C_drew ?_) | exact HR117_2.out)) hb); have n4_ := Aside0.mk (below_step (by repeat (first | (with_reducible first | exact HB.out | apply below_alloc | apply pw_below_drewN | apply below_drew1 | refine below_set ?_ GE112.out) | exact HB.out)) hb); have n5_ := Aside0.mk (hbox); have n6_ := Aside0.mk ((by rw [hg]; exact (below_size (by repeat (first | (with_reducible first | exact HB.out | apply below_alloc | apply pw_below_drewN | apply below_drew1 | refine below_set ?_ GE112.out) | exact HB.out))) : w.heap.size ≤ gb118)); have n7_ := Aside0.mk ((by rw [hg]; exact (below_size (by repeat (first | (with_reducible first | exact HB.out | apply below_alloc | apply pw_below_drewN | apply below_drew1 | refine below_set ?_ GE112.out) | exact HB.out))) : w.heap.size ≤ gb118)); have n8_ := Aside0.mk ((by rw [hg]; exact Nat.ne_of_lt (blk_lt (g := gb112) (o := .cells #[.int .i64 a0_0, .int .i64 a0_1, .int .i64 a0_2] 29 (0, 0)) (by (with_reducible repeat (first | refine blk_drewN ?_ _ | refine blk_drew ?_ | refine blk_alloc ?_ _)); exact BK112.out)) : gb112 ≠ gb118)); have n9_ := Aside0.mk ((by rw [hg]; exact Nat.ne_of_gt (blk_lt (g := gb112) (o := .cells #[.int .i64 a0_0, .int .i64 a0_1, .int .i64 a0_2] 29 (0, 0)) (by (with_reducible repeat (first | refine blk_drewN ?_ _ | refine blk_drew ?_ | refine blk_alloc ?_ _)); exact BK112.out)) : gb118 ≠ gb112)); clear HO_46; clear HL117_2; clear BK112; clear HR117_2; clear HB; have HO_46 := n0_; have HL117_2 := n1_; have BK112 := n2_; have HR117_2 := n3_; have HB := n4_; have BK118 := n5_; have GW118 := n6_; have GE118 := n7_; have NB112_118 := n8_; have NB118_112 := n9_; clear n0_ n1_ n2_ n3_ n4_ n5_ n6_ n7_ n8_ n9_; clear hb hbox hg; have hnb45 := NB118_112.out; have hnc45 := NB112_118.out; have hcz46_0 : w44.cell? ⟨gb118, 0, none⟩ = some (.int .i64 ((rd_T107 t113 x54_1).f0)) := (blk_cell BK118.out 0).trans rfl; have hcz46_1 : w44.cell? ⟨gb118, 1, none⟩ = some (.int .i64 ((rd_T107 t113 x54_1).f1)) := (blk_cell BK118.out 1).trans rfl; have hcz46_2 : w44.cell? ⟨gb118, 2, none⟩ = some (.slice A117_2 ((rd_T107 t113 x54_1).f2).length c117_2) := (blk_cell BK118.out 2).trans rfl; have hcz46_3 : w44.cell? ⟨gb118, 3, none⟩ = some (.bool ((rd_T107 t113 x54_1).f3)) := (blk_cell BK118.out 3).trans rfl; have hfz46_0 := blk_frozen BK118.out 0; have hfz46_1 := blk_frozen BK118.out 1; have hfz46_2 := blk_frozen BK118.out 2; have hfz46_3 := blk_frozen BK118.out 3; have hcz47_0 : w44.cell? ⟨gb112, 0, none⟩ = some (.int .i64 a0_0) := (blk_cell BK112.out 0).trans rfl; have hcz47_1 : w44.cell? ⟨gb112, 1, none⟩ = some (.int .i64 a0_1) := (blk_cell BK112.out 1).trans rfl; have hcz47_2 : w44.cell? ⟨gb112, 2, none⟩ = some (.int .i64 a0_2) := (blk_cell BK112.out 2).trans rfl; have hfz47_0 := blk_frozen BK112.out 0; have hfz47_1 := blk_frozen BK112.out 1; have hfz47_2 := blk_frozen BK112.out 2) | (go_at_call 116; go_in) | (go_at_call 118; go_in) | (go_at_call 123; go_in) | ((try simp only [Exit.inBlock, Exit.then]); refine bodyPost_end (results_none rfl _ _ _) rfl ?_; simp only []; go_at_K) | ((try simp only [Exit.inBlock, Exit.then]); refine bodyPost_ret (results_none rfl _ _ _) rfl ?_; simp only []; go_at_K))
                      go_ret
                      exact ⟨by first | rfl | (simp [errW_none, errW_some] <;> rfl) | (simp [*, errW_none, errW_some] <;> rfl), by repeat (first | (with_reducible first | exact HB.out | apply below_alloc | apply pw_below_drewN | apply below_drew1 | refine below_set ?_ GE112.out | refine below_set ?_ GE118.out) | exact HB.out)⟩
                  · rw [if_neg c38] at H
                    exact absurd H (by simp)
                · rw [if_neg c37] at H
                  exact absurd H (by simp)
              · rw [if_neg c36] at H
                have c36b0 : decide (x54_1 < (t113.length : Int)) = false := decide_eq_false c36
                clear c36
                obtain rfl := Option.some.inj H
                go_wp2_with (first | (go_at_call 116; go_in) | (go_at_call 118; go_in) | (go_at_call 123; go_in) | ((try simp only [Exit.inBlock, Exit.then]); refine bodyPost_end (results_none rfl _ _ _) rfl ?_; simp only []; go_at_K) | ((try simp only [Exit.inBlock, Exit.then]); refine bodyPost_ret (results_none rfl _ _ _) rfl ?_; simp only []; go_at_K) | go_in)
                go_ret
                exact ⟨by first | rfl | (simp [errW_none, errW_some] <;> rfl) | (simp [*, errW_none, errW_some] <;> rfl), by repeat (first | (with_reducible first | exact HB.out | apply below_alloc | apply pw_below_drewN | apply below_drew1 | refine below_set ?_ GE112.out) | exact HB.out)⟩
        · rw [if_neg c30] at H
          have c30b0 : (a0_0 == 4) = false := beq_eq_false_iff_ne.mpr c30
          have c30b1 : (a0_0 != 4) = true := bne_iff_ne.mpr c30
          obtain rfl := Option.some.inj H
          go_enter Try.func85, Try.ntmps85
          go_wp2_with (first | ((with_reducible refine gate_dst (N := 2) rfl ?_); refine box_event ?hg (N := 2) ?hd (cs := #[.int .i64 a0_0, .int .i64 a0_1, .int .i64 a0_2]) (t := 29) ?hr ?_; (case hd => rfl); (case hg => rfl); (case hr => first | (go_simp; done) | (go_simp; rfl)); intro gb112 hg w48 hbox hb; have n0_ := Aside0.mk (below_step (by repeat (first | (with_reducible first | exact HB.out | apply below_alloc | apply pw_below_drewN | apply below_drew1) | exact HB.out)) hb); have n1_ := Aside0.mk (hbox); have n2_ := Aside0.mk ((by rw [hg]; exact (below_size (by repeat (first | (with_reducible first | exact HB.out | apply below_alloc | apply pw_below_drewN | apply below_drew1) | exact HB.out))) : w.heap.size ≤ gb112)); have n3_ := Aside0.mk ((by rw [hg]; exact (below_size (by repeat (first | (with_reducible first | exact HB.out | apply below_alloc | apply pw_below_drewN | apply below_drew1) | exact HB.out))) : w.heap.size ≤ gb112)); clear HB; have HB := n0_; have BK112 := n1_; have GW112 := n2_; have GE112 := n3_; clear n0_ n1_ n2_ n3_; clear hb hbox hg; have hcz49_0 : w48.cell? ⟨gb112, 0, none⟩ = some (.int .i64 a0_0) := (blk_cell BK112.out 0).trans rfl; have hcz49_1 : w48.cell? ⟨gb112, 1, none⟩ = some (.int .i64 a0_1) := (blk_cell BK112.out 1).trans rfl; have hcz49_2 : w48.cell? ⟨gb112, 2, none⟩ = some (.int .i64 a0_2) := (blk_cell BK112.out 2).trans rfl; have hfz49_0 := blk_frozen BK112.out 0; have hfz49_1 := blk_frozen BK112.out 1; have hfz49_2 := blk_frozen BK112.out 2) | ((with_reducible refine gate_callee (f := 86) rfl ?_); refine goesL_ (some 9) rfl rfl Try.func86 (by kernel_rfl) rfl #[.slice A1 l1.length c1, .int .i64 a0_2] rfl (by (try simp only [List.map_toArray, List.map_cons, List.map_nil]); first | done | rfl | (simp only [List.length_drop, List.length_take]; rfl)) ?_; (with_reducible refine (weak_found.calls k (fun k_ => k_ < w.heap.size) _ _ l1 a0_2 t113 _ ?side1 A3.out).mono ?_); (case side1 => exact Kd.V_mk HC1.out (Kd.F_below (Kd.C_F k107_heap HR1.out) (by repeat (first | (with_reducible first | exact HB.out | apply below_alloc | apply pw_below_drewN | apply below_drew1 | refine below_set ?_ GE112.out) | exact HB.out)))); rintro e w50 ⟨v114, rfl, ho0, hb⟩; refine ⟨_, rfl, ?_⟩; have n0_ := Aside0.mk (Kd.N_lower (Kd.N_mono (ok' := fun k_ => k_ ≠ gb112) ho0 (fun k_ hk_ => Or.elim hk_ (fun hs_ => fun e_ => Nat.not_le.2 hs_ (by rw [e_]; exact GW112.out)) (fun hn_ => (Kd.freshB (g := gb112) (o := .cells #[.int .i64 a0_0, .int .i64 a0_1, .int .i64 a0_2] 29 (0, 0)) (by (with_reducible repeat (first | refine blk_drewN ?_ _ | refine blk_drew ?_ | refine blk_alloc ?_ _)); exact BK112.out) k_ hn_)))) (below_size (by repeat (first | (with_reducible first | exact HB.out | apply below_alloc | apply pw_below_drewN | apply below_drew1 | refine below_set ?_ GE112.out) | exact HB.out)))); have n1_ := Aside0.mk (blk_below (g := gb112) (o := .cells #[.int .i64 a0_0, .int .i64 a0_1, .int .i64 a0_2] 29 (0, 0)) (by (with_reducible repeat (first | refine blk_drewN ?_ _ | refine blk_drew ?_ | refine blk_alloc ?_ _)); exact BK112.out) hb); have n2_ := Aside0.mk (below_step (by repeat (first | (with_reducible first | exact HB.out | apply below_alloc | apply pw_below_drewN | apply below_drew1 | refine below_set ?_ GE112.out) | exact HB.out)) hb); clear BK112; clear HB; have HO115 := n0_; have BK112 := n1_; have HB := n2_; clear n0_ n1_ n2_; (try clear hb); (try clear hb2); (try clear hk); (try clear hi); (try clear ho0); have hcz51_0 : w50.cell? ⟨gb112, 0, none⟩ = some (.int .i64 a0_0) := (blk_cell BK112.out 0).trans rfl; have hcz51_1 : w50.cell? ⟨gb112, 1, none⟩ = some (.int .i64 a0_1) := (blk_cell BK112.out 1).trans rfl; have hcz51_2 : w50.cell? ⟨gb112, 2, none⟩ = some (.int .i64 a0_2) := (blk_cell BK112.out 2).trans rfl; have hfz51_0 := blk_frozen BK112.out 0; have hfz51_1 := blk_frozen BK112.out 1; have hfz51_2 := blk_frozen BK112.out 2) | (go_at_call 116; go_in) | (go_at_call 118; go_in) | (go_at_call 123; go_in) | ((try simp only [Exit.inBlock, Exit.then]); refine bodyPost_end (results_none rfl _ _ _) rfl ?_; simp only []; go_at_K) | ((try simp only [Exit.inBlock, Exit.then]); refine bodyPost_ret (results_none rfl _ _ _) rfl ?_; simp only []; go_at_K))
          go_ret
          exact ⟨by first | rfl | (simp [errW_none, errW_some] <;> rfl) | (simp [*, errW_none, errW_some] <;> rfl), by repeat (first | (with_reducible first | exact HB.out | apply below_alloc | apply pw_below_drewN | apply below_drew1 | refine below_set ?_ GE112.out) | exact HB.out)⟩

-- NOT PRINTED: function 84 (weak_Shows_1)

end Go.Proofs.Ytgiodeiibmbhhaa.PWeakShows
