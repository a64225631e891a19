-- Written by this session's own program (wip/mp, over the kit's print) for this claim; Lean checks it.
import Derived.Test.YtgiodeiibmbhhaaPFmWritesx0
import Derived.Test.YtgiodeiibmbhhaaPFmWritesx2
namespace Go.Proofs.Ytgiodeiibmbhhaa.PFmWrites
open Go.RowKit Go.Proofs.YtgiodeiibmbhhaaW.PrintWords Go.Proofs.YtgiodeiibmbhhaaW.PrintLast Go.Proofs.YtgiodeiibmbhhaaW.PrintMore
attribute [local go_sem] max2_int min2_int max_two min_two max_three min_three max_four min_four   -- for this text's walks alone
set_option linter.unusedVariables false
set_option linter.unusedSimpArgs false

/-! ### fm_Read: function 52 -/
mutual
def fm_Read.j0 : Nat → List Int → Bool → Option (List Int × Int)
  | 0, _, _ => none
  | k + 1, x6, x29 => if x29 = true then (some (([] : List Int), 3)) else (fm_Read.l0 k x6 ([] : List Int) 0 0 1)
def fm_Read.l0 : Nat → List Int → List Int → Int → Int → Int → Option (List Int × Int)
  | 0, _, _, _, _, _ => none
  | k + 1, x6, x8, x9, x10, x11 => if x11 < (x6.length : Int) then (if 0 ≤ x11 then (if (rd x6 x11) = 1 then (if (wrap64 (x11 + 1)) = (x6.length : Int) then (fm_Read.j2 k x6 x8 (wrap64 (x9 * 2)) x10 (wrap64 (x11 + 1)) true) else (if 0 ≤ (wrap64 (x11 + 1)) then (if (wrap64 (x11 + 1)) < (x6.length : Int) then (fm_Read.j2 k x6 x8 (wrap64 (x9 * 2)) x10 (wrap64 (x11 + 1)) ((rd x6 (wrap64 (x11 + 1))) != 1)) else (none)) else (none))) else (if (wrap64 (x10 + 1)) = 8 then (if x8.length < 140737488355328 then (fm_Read.l0 k x6 (x8 ++ [(wrap64 (x9 * 2)) % 256]) 0 0 (wrap64 (x11 + 1))) else (none)) else (fm_Read.l0 k x6 x8 (wrap64 (x9 * 2)) (wrap64 (x10 + 1)) (wrap64 (x11 + 1))))) else (none)) else (if x10 > 0 then (some (([] : List Int), 13)) else (if (x8.length : Int) > 2000 then (some (([] : List Int), 2)) else (some (x8, 0))))
def fm_Read.j2 : Nat → List Int → List Int → Int → Int → Int → Bool → Option (List Int × Int)
  | 0, _, _, _, _, _, _ => none
  | k + 1, x6, x8, x9, x10, x11, x55 => if x55 = true then (some (([] : List Int), 3)) else (if (wrap64 (x10 + 1)) = 8 then (if x8.length < 140737488355328 then (fm_Read.l0 k x6 (x8 ++ [(wrap64 (x9 + 1)) % 256]) 0 0 (wrap64 (x11 + 1))) else (none)) else (fm_Read.l0 k x6 x8 (wrap64 (x9 + 1)) (wrap64 (x10 + 1)) (wrap64 (x11 + 1))))
end
def fm_Read.f (k : Nat) (l0 : List Int) (a1 : Int) : Option (List Int × Int) := (flux_Cells.f k l0 a1 2).bind fun bt132 => (if bt132.2 = 0 then (if (bt132.1.length : Int) = 0 then (fm_Read.j0 k bt132.1 true) else (if 0 < (bt132.1.length : Int) then (fm_Read.j0 k bt132.1 ((rd bt132.1 0) != 1)) else (none))) else (some (([] : List Int), bt132.2)))
theorem fm_Read.mono_l : ∀ k, (∀ y0 y1, LeO (fm_Read.j0 k y0 y1) (fm_Read.j0 (k + 1) y0 y1)) ∧ (∀ y0 y1 y2 y3 y4, LeO (fm_Read.l0 k y0 y1 y2 y3 y4) (fm_Read.l0 (k + 1) y0 y1 y2 y3 y4)) ∧ (∀ y0 y1 y2 y3 y4 y5, LeO (fm_Read.j2 k y0 y1 y2 y3 y4 y5) (fm_Read.j2 (k + 1) y0 y1 y2 y3 y4 y5))
  | 0 => ⟨fun _ _ r h => by simp [fm_Read.j0] at h, fun _ _ _ _ _ r h => by simp [fm_Read.l0] at h, fun _ _ _ _ _ _ r h => by simp [fm_Read.j2] at h⟩
  | k + 1 => by
    obtain ⟨ih0, ih1, ih2⟩ := fm_Read.mono_l k
    refine ⟨?_, ?_, ?_⟩
    · intro y0 y1
      unfold fm_Read.j0
      repeat' first
      | (with_reducible exact ih0 _ _)
      | (with_reducible exact ih1 _ _ _ _ _)
      | (with_reducible exact ih2 _ _ _ _ _ _)
      | (with_reducible exact flux_Cells.mono _ _ _ _)
      | (with_reducible exact LeO.refl _)
      | (with_reducible exact LeO.none _)
      | (with_reducible refine LeO.ite ?_ ?_)
      | (with_reducible refine LeO.bind ?_ (fun _ => ?_))
      | exact ih0 _ _
      | exact ih1 _ _ _ _ _
      | exact ih2 _ _ _ _ _ _
      | exact flux_Cells.mono _ _ _ _
      | exact LeO.none _
      | refine LeO.ite ?_ ?_
      | refine LeO.bind ?_ (fun _ => ?_)
    · intro y0 y1 y2 y3 y4
      unfold fm_Read.l0
      repeat' first
      | (with_reducible exact ih0 _ _)
      | (with_reducible exact ih1 _ _ _ _ _)
      | (with_reducible exact ih2 _ _ _ _ _ _)
      | (with_reducible exact flux_Cells.mono _ _ _ _)
      | (with_reducible exact LeO.refl _)
      | (with_reducible exact LeO.none _)
      | (with_reducible refine LeO.ite ?_ ?_)
      | (with_reducible refine LeO.bind ?_ (fun _ => ?_))
      | exact ih0 _ _
      | exact ih1 _ _ _ _ _
      | exact ih2 _ _ _ _ _ _
      | exact flux_Cells.mono _ _ _ _
      | exact LeO.none _
      | refine LeO.ite ?_ ?_
      | refine LeO.bind ?_ (fun _ => ?_)
    · intro y0 y1 y2 y3 y4 y5
      unfold fm_Read.j2
      repeat' first
      | (with_reducible exact ih0 _ _)
      | (with_reducible exact ih1 _ _ _ _ _)
      | (with_reducible exact ih2 _ _ _ _ _ _)
      | (with_reducible exact flux_Cells.mono _ _ _ _)
      | (with_reducible exact LeO.refl _)
      | (with_reducible exact LeO.none _)
      | (with_reducible refine LeO.ite ?_ ?_)
      | (with_reducible refine LeO.bind ?_ (fun _ => ?_))
      | exact ih0 _ _
      | exact ih1 _ _ _ _ _
      | exact ih2 _ _ _ _ _ _
      | exact flux_Cells.mono _ _ _ _
      | exact LeO.none _
      | refine LeO.ite ?_ ?_
      | refine LeO.bind ?_ (fun _ => ?_)
theorem fm_Read.mono : ∀ a0 a1 k, LeO (fm_Read.f k a0 a1) (fm_Read.f (k + 1) a0 a1) := by
  intro a0 a1 k
  obtain ⟨ih0, ih1, ih2⟩ := fm_Read.mono_l k
  unfold fm_Read.f
  repeat' first
      | (with_reducible exact ih0 _ _)
      | (with_reducible exact ih1 _ _ _ _ _)
      | (with_reducible exact ih2 _ _ _ _ _ _)
      | (with_reducible exact flux_Cells.mono _ _ _ _)
      | (with_reducible exact LeO.refl _)
      | (with_reducible exact LeO.none _)
      | (with_reducible refine LeO.ite ?_ ?_)
      | (with_reducible refine LeO.bind ?_ (fun _ => ?_))
      | exact ih0 _ _
      | exact ih1 _ _ _ _ _
      | exact ih2 _ _ _ _ _ _
      | exact flux_Cells.mono _ _ _ _
      | exact LeO.none _
      | refine LeO.ite ?_ ?_
      | refine LeO.bind ?_ (fun _ => ?_)
set_option maxHeartbeats 8000000 in
set_option maxRecDepth 100000 in
theorem fm_Read.calls (k : Nat) (A0 : Option Addr) (c0 : Nat) (l0 : List Int) (a1 : Int) (r1 : List Int) (r2 : Int) (w : World) (hr0 : Kd.C (Kd.int .i64) w A0 l0.length l0) (hc0 : l0.length ≤ c0) (h : fm_Read.f k l0 a1 = some (r1, r2)) :
    Calls Try.prog 52 #[.slice A0 l0.length c0, .int .i64 a1] w fun e w' => ∃ v0_ : Value, e = .returned (.tuple #[v0_, .int .i64 r2]) ∧ Kd.R (Kd.int .u8) 5 w' w.heap.size (fun _ => True) v0_ r1 ∧ Below w.heap.size w w' := by
  have HR0 := Aside0.mk hr0
  have HC0 := Aside0.mk hc0
  clear hr0 hc0
  have HB := Aside0.mk (Below.refl w.heap.size w)
  have H : ((flux_Cells.f k l0 a1 2).bind fun bt132 => (if bt132.2 = 0 then (if (bt132.1.length : Int) = 0 then (fm_Read.j0 k bt132.1 true) else (if 0 < (bt132.1.length : Int) then (fm_Read.j0 k bt132.1 ((rd bt132.1 0) != 1)) else (none))) else (some (([] : List Int), bt132.2)))) = some (r1, r2) := h
  clear h
  replace H := Option.bind_eq_some_iff.mp H
  obtain ⟨⟨t132, t133⟩, A30, H⟩ := H
  replace H : (if t133 = 0 then (if (t132.length : Int) = 0 then (fm_Read.j0 k t132 true) else (if 0 < (t132.length : Int) then (fm_Read.j0 k t132 ((rd t132 0) != 1)) else (none))) else (some (([] : List Int), t133))) = some (r1, r2) := H
  have A3 := Aside0.mk A30
  clear A30
  by_cases c4 : t133 = 0
  · rw [if_pos c4] at H
    have c4b0 : (t133 == 0) = true := beq_iff_eq.mpr c4
    have c4b1 : (t133 != 0) = false := bne_eq_false_iff_eq.mpr c4
    clear c4
    have HC5 := Aside0.mk H
    clear H
    go_enter Try.func52, Try.ntmps52
    go_upto_region 4 with (first | ((with_reducible refine gate_callee (f := 78) rfl ?_); refine goesL_ (some 15) rfl rfl Try.func78 (by kernel_rfl) rfl #[.slice A0 l0.length c0, .int .i64 a1, .int .i64 2] rfl (by (try simp only [List.map_toArray, List.map_cons, List.map_nil]); first | done | rfl | (simp only [List.length_drop, List.length_take]; rfl)) ?_; (with_reducible refine (flux_Cells.calls k _ _ l0 a1 2 t132 t133 _ ?side1 ?side2 A3.out).mono ?_); (case side1 => repeat (first | exact HR0.out | (with_reducible refine Kd.C_alloc ?_ _) | (with_reducible refine Kd.C_drewN ?_ _) | (with_reducible refine Kd.C_drew ?_))); (case side2 => exact HC0.out); rintro e w6 ⟨v134, rfl, ho0, hb⟩; refine ⟨_, rfl, ?_⟩; have n0_ := Aside0.mk (Kd.R_lower ho0 (below_size (by repeat (first | (with_reducible first | exact HB.out | apply below_alloc | apply pw_below_drewN | apply below_drew1) | exact HB.out)))); have n1_ := Aside0.mk (below_step (by repeat (first | (with_reducible first | exact HB.out | apply below_alloc | apply pw_below_drewN | apply below_drew1) | exact HB.out)) hb); clear HB; have HO135 := n0_; have HB := n1_; clear n0_ n1_; (try clear hb); (try clear hb2); (try clear hk); (try clear hi); (try clear ho0)))
    (try simp only [Act.put, List.setIfInBounds_toArray, List.set_cons_zero, List.set_cons_succ])
    go_cut [29] (fun v29 wc => ∃ (kq : Nat) (x29_4 : Bool), v29 = .bool x29_4 ∧ Aside0 (fm_Read.j0 kq t132 x29_4 = some (r1, r2)) ∧ Aside0 (kq ≤ k) ∧ Aside0 (Kd.R (Kd.int .i64) 3 wc w.heap.size (fun _ => True) v134 t132) ∧ Aside0 (Below w.heap.size w wc))
    case first =>
      have H := HC5.out
      clear HC5
      by_cases c7 : (t132.length : Int) = 0
      · rw [if_pos c7] at H
        have c7b0 : ((t132.length : Int) == 0) = true := beq_iff_eq.mpr c7
        have c7b1 : ((t132.length : Int) != 0) = false := bne_eq_false_iff_eq.mpr c7
        clear c7
        (first | rw [c7b0] | (simp only [i64_w, i32_w]; rw [c7b0]) | skip)
        have H' := Aside0.mk H
        clear H
        obtain ⟨Ao8, co8, eo8⟩ := Kd.R_slice HO135.out
        subst eo8
        go_wp2
        go_meet
        case rel => exact ⟨_, (true), (by first | rfl | (simp; done) | (simp [*]; done)), H', ⟨by first | omega | exact Nat.le_refl _⟩, ⟨by (with_reducible repeat (first | apply Kd.R_alloc | apply Kd.R_drewN | apply Kd.R_drew)); exact HO135.out⟩, ⟨by repeat (first | (with_reducible first | exact HB.out | apply below_alloc | apply pw_below_drewN | apply below_drew1) | exact HB.out)⟩⟩
      · rw [if_neg c7] at H
        have c7b0 : ((t132.length : Int) == 0) = false := beq_eq_false_iff_ne.mpr c7
        have c7b1 : ((t132.length : Int) != 0) = true := bne_iff_ne.mpr c7
        have c7b2 : ¬ (t132 = []) := fun h_ => c7 (by rw [h_]; rfl)
        (first | rw [c7b0] | (simp only [i64_w, i32_w]; rw [c7b0]) | skip)
        by_cases c9 : 0 < (t132.length : Int)
        · rw [if_pos c9] at H
          have c9b0 : decide (0 < (t132.length : Int)) = true := decide_eq_true c9
          have c9b1 : decide (0 < t132.length) = true := decide_eq_true (by omega)
          clear c9
          have H' := Aside0.mk H
          clear H
          obtain ⟨Ao10, co10, eo10⟩ := Kd.R_slice HO135.out
          subst eo10
          have p136 : 0 ≤ (0 : Int) := (by omega)
          have q136 : 0 < (t132.length : Int) := of_decide_eq_true (by first | (with_reducible assumption) | assumption)
          obtain ⟨ad136, e136, hx136_0⟩ := Kd.at_int (Kd.R_reads' HO135.out).2.2 0 p136 q136
          cases e136
          have qi136 : (0 < t132.length) = True := eq_true (by omega)
          (try rw [show ((0 : Int)).toNat = 0 from rfl] at hx136_0)
          (try rw [Addr.add_zero'] at hx136_0)
          replace p136 := eq_true p136
          replace q136 := eq_true q136
          go_wp2
          go_meet
          case rel => exact ⟨_, (((rd t132 0) != 1)), (by first | rfl | (simp; done) | (simp [*]; done)), H', ⟨by first | omega | exact Nat.le_refl _⟩, ⟨by (with_reducible repeat (first | apply Kd.R_alloc | apply Kd.R_drewN | apply Kd.R_drew)); exact HO135.out⟩, ⟨by repeat (first | (with_reducible first | exact HB.out | apply below_alloc | apply pw_below_drewN | apply below_drew1) | exact HB.out)⟩⟩
        · rw [if_neg c9] at H
          exact absurd H (by simp)
    case rest =>
      clear HC5
      try clear p1
      try clear q1
      try clear hx1
      try clear qi1
      try clear p2
      try clear c4
      try clear c4b0
      try clear c4b1
      try clear c5
      try clear c7
      try clear c7b0
      try clear c7b1
      try clear c7b2
      try clear c9
      try clear c9b0
      try clear c9b1
      try clear hx136_0
      try clear p136
      try clear q136
      obtain ⟨kq, x29_4, rfl, HA, HJ4, HO_6, HB⟩ := hcut
      cases kq with
      | zero => exact absurd HA.out (by simp [fm_Read.j0])
      | succ kj4 =>
        have H := HA.out
        clear HA
        simp only [fm_Read.j0] at H
        by_cases c11 : x29_4 = true
        · subst c11
          have H1 : (some (([] : List Int), 3)) = some (r1, r2) := by rw [if_pos rfl] at H; exact H
          clear H
          have H := H1
          clear H1
          simp only [Option.some.injEq, Prod.mk.injEq] at H
          obtain ⟨rfl, rfl⟩ := H
          go_wp2
          go_ret2
          exact ⟨_, by first | rfl | (simp [errW_none, errW_some] <;> rfl) | (simp [*, errW_none, errW_some] <;> rfl), by first | exact Kd.R_nil _ _ _ _ _ | exact Kd.N_nil _ _ _ _ _ | exact Kd.V_nil _ _ _ _ _ | exact Kd.Q_nil _ _ _ _ _ | exact Kd.S_nil _ _ _ _ _, by repeat (first | (with_reducible first | exact HB.out | apply below_alloc | apply pw_below_drewN | apply below_drew1) | exact HB.out)⟩
        · replace c11 := Bool.eq_false_iff.mpr c11
          subst c11
          have H1 : (fm_Read.l0 kj4 t132 ([] : List Int) 0 0 1) = some (r1, r2) := by rw [if_neg (show ¬ (false = true) by decide)] at H; exact H
          clear H
          have H := H1
          clear H1
          have H' := Aside0.mk H
          clear H
          go_wp2
          go_loopg [8, 9, 10, 11] kj4 (fun kq v8 v9 v10 v11 w' => ∃ (x8_2 : List Int) (x9_2 : Int) (x10_2 : Int) (x11_2 : Int), v9 = .int .i64 x9_2 ∧ v10 = .int .i64 x10_2 ∧ v11 = .int .i64 x11_2 ∧ Aside0 (fm_Read.l0 kq t132 x8_2 x9_2 x10_2 x11_2 = some (r1, r2)) ∧ Aside0 (kq ≤ kj4) ∧ Aside0 (Kd.R (Kd.int .i64) 3 w' w.heap.size (fun _ => True) v134 t132) ∧ Aside0 (Kd.R (Kd.int .u8) 5 w' w.heap.size (fun _ => True) v8 x8_2) ∧ Aside0 (Below w.heap.size w w'))
          case atStart => exact ⟨(([] : List Int)), (0), (0), (1), (by first | rfl | (simp; done) | (simp [*]; done)), (by first | rfl | (simp; done) | (simp [*]; done)), (by first | rfl | (simp; done) | (simp [*]; done)), H', ⟨Nat.le_refl _⟩, ⟨by (with_reducible repeat (first | apply Kd.R_alloc | apply Kd.R_drewN | apply Kd.R_drew)); exact HO_6.out⟩, ⟨by first | exact Kd.R_nil _ _ _ _ _ | exact Kd.N_nil _ _ _ _ _ | exact Kd.V_nil _ _ _ _ _ | exact Kd.Q_nil _ _ _ _ _ | exact Kd.S_nil _ _ _ _ _⟩, ⟨by repeat (first | (with_reducible first | exact HB.out | apply below_alloc | apply pw_below_drewN | apply below_drew1) | exact HB.out)⟩⟩
          case round =>
            clear H'
            try clear c1
            try clear p1
            try clear q1
            try clear hx1
            try clear qi1
            try clear p2
            try clear c4
            try clear c4b0
            try clear c4b1
            try clear c5
            try clear c7
            try clear c7b0
            try clear c7b1
            try clear c7b2
            try clear c9
            try clear c9b0
            try clear c9b1
            try clear c11
            try clear hx136_0
            try clear p1
            try clear p136
            try clear p2
            try clear q1
            try clear q136
            obtain ⟨x8_2, x9_2, x10_2, x11_2, rfl, rfl, rfl, HA, HK2, HO_6, HO_8, HB⟩ := hrel
            cases gk with
            | zero => exact absurd HA.out (by simp [fm_Read.l0])
            | succ k2 =>
              have H := HA.out
              clear HA
              simp only [fm_Read.l0] at H
              by_cases c12 : x11_2 < (t132.length : Int)
              · rw [if_pos c12] at H
                have c12b0 : decide (x11_2 < (t132.length : Int)) = true := decide_eq_true c12
                clear c12
                by_cases c13 : 0 ≤ x11_2
                · rw [if_pos c13] at H
                  have c13b0 : decide (0 ≤ x11_2) = true := decide_eq_true c13
                  clear c13
                  by_cases c14 : (rd t132 x11_2) = 1
                  · rw [if_pos c14] at H
                    have c14b0 : ((rd t132 x11_2) == 1) = true := beq_iff_eq.mpr c14
                    have c14b1 : ((rd t132 x11_2) != 1) = false := bne_eq_false_iff_eq.mpr c14
                    clear c14
                    have HC15 := Aside0.mk H
                    clear H
                    obtain ⟨Ao16, co16, eo16⟩ := Kd.R_slice HO_6.out
                    subst eo16
                    have p137 : 0 ≤ (x11_2 : Int) := of_decide_eq_true (by first | (with_reducible assumption) | assumption)
                    have q137 : x11_2 < (t132.length : Int) := of_decide_eq_true (by first | (with_reducible assumption) | assumption)
                    obtain ⟨ad137, e137, hx137_0⟩ := Kd.at_int (Kd.R_reads' HO_6.out).2.2 x11_2 p137 q137
                    cases e137
                    replace p137 := eq_true p137
                    replace q137 := eq_true q137
                    go_upto_region 14 with (fail)
                    go_cut [55] (fun v55 wc => ∃ (kq : Nat) (x55_14 : Bool), v55 = .bool x55_14 ∧ Aside0 (fm_Read.j2 kq t132 x8_2 (wrap64 (x9_2 * 2)) x10_2 (wrap64 (x11_2 + 1)) x55_14 = some (r1, r2)) ∧ Aside0 (kq ≤ k2) ∧ Aside0 (Kd.R (Kd.int .i64) 3 wc w.heap.size (fun _ => True) (.slice (some ad137) t132.length co16) t132) ∧ Aside0 (Kd.R (Kd.int .u8) 5 wc w.heap.size (fun _ => True) u8 x8_2) ∧ Aside0 (Below w.heap.size w wc))
                    case first =>
                      have H := HC15.out
                      clear HC15
                      by_cases c17 : (wrap64 (x11_2 + 1)) = (t132.length : Int)
                      · rw [if_pos c17] at H
                        have c17b0 : ((wrap64 (x11_2 + 1)) == (t132.length : Int)) = true := beq_iff_eq.mpr c17
                        have c17b1 : ((wrap64 (x11_2 + 1)) != (t132.length : Int)) = false := bne_eq_false_iff_eq.mpr c17
                        clear c17
                        (first | rw [c17b0] | (simp only [i64_w, i32_w]; rw [c17b0]) | skip)
                        have H' := Aside0.mk H
                        clear H
                        go_wp2
                        go_meet
                        case rel => exact ⟨_, (true), (by first | rfl | (simp; done) | (simp [*]; done)), H', ⟨by have := HJ4.out; have := HK2.out; first | omega | exact Nat.le_refl _⟩, ⟨by (with_reducible repeat (first | apply Kd.R_alloc | apply Kd.R_drewN | apply Kd.R_drew)); exact HO_6.out⟩, ⟨by (with_reducible repeat (first | apply Kd.R_alloc | apply Kd.R_drewN | apply Kd.R_drew)); exact HO_8.out⟩, ⟨by repeat (first | (with_reducible first | exact HB.out | apply below_alloc | apply pw_below_drewN | apply below_drew1) | exact HB.out)⟩⟩
                      · rw [if_neg c17] at H
                        have c17b0 : ((wrap64 (x11_2 + 1)) == (t132.length : Int)) = false := beq_eq_false_iff_ne.mpr c17
                        have c17b1 : ((wrap64 (x11_2 + 1)) != (t132.length : Int)) = true := bne_iff_ne.mpr c17
                        (first | rw [c17b0] | (simp only [i64_w, i32_w]; rw [c17b0]) | skip)
                        obtain ⟨ji18, hji18⟩ : ∃ j_ : Int, (wrap64 (x11_2 + 1)) = j_ := ⟨_, rfl⟩
                        replace H : (if 0 ≤ (ji18) then (if (ji18) < (t132.length : Int) then (fm_Read.j2 k2 t132 x8_2 (wrap64 (x9_2 * 2)) x10_2 ji18 ((rd t132 (ji18)) != 1)) else (none)) else (none)) = some (r1, r2) := by first | (rw [hji18] at H; exact H) | (simp only [hji18] at H ⊢; exact H)
                        (try rw [hji18] at c17b0)
                        (try rw [hji18] at c17b1)
                        have hji18w : (IntKind.i64.wrap (x11_2 + 1)) = ji18 := (i64_w _).trans hji18
                        by_cases c19 : 0 ≤ (ji18)
                        · rw [if_pos c19] at H
                          have c19b0 : decide (0 ≤ (ji18)) = true := decide_eq_true c19
                          clear c19
                          by_cases c20 : (ji18) < (t132.length : Int)
                          · rw [if_pos c20] at H
                            have c20b0 : decide ((ji18) < (t132.length : Int)) = true := decide_eq_true c20
                            clear c20
                            have H' := Aside0.mk H
                            clear H
                            have p138 : 0 ≤ ((ji18) : Int) := of_decide_eq_true (by first | (with_reducible assumption) | assumption)
                            have q138 : (ji18) < (t132.length : Int) := of_decide_eq_true (by first | (with_reducible assumption) | assumption)
                            obtain ⟨ad138, e138, hx138_0⟩ := Kd.at_int (Kd.R_reads' HO_6.out).2.2 (ji18) p138 q138
                            obtain rfl : ad137 = ad138 := (by injection e138)
                            replace p138 := eq_true p138
                            replace q138 := eq_true q138
                            go_wp2
                            (try subst hji18)
                            go_meet
                            case rel => exact ⟨_, (((rd t132 ((wrap64 (x11_2 + 1)))) != 1)), (by first | rfl | (simp; done) | (simp only [← hji18] <;> (first | rfl | simp)) | (simp [*]; done)), H', ⟨by have := HJ4.out; have := HK2.out; first | omega | exact Nat.le_refl _⟩, ⟨by (with_reducible repeat (first | apply Kd.R_alloc | apply Kd.R_drewN | apply Kd.R_drew)); exact HO_6.out⟩, ⟨by (with_reducible repeat (first | apply Kd.R_alloc | apply Kd.R_drewN | apply Kd.R_drew)); exact HO_8.out⟩, ⟨by repeat (first | (with_reducible first | exact HB.out | apply below_alloc | apply pw_below_drewN | apply below_drew1) | exact HB.out)⟩⟩
                          · rw [if_neg c20] at H
                            exact absurd H (by simp)
                        · rw [if_neg c19] at H
                          exact absurd H (by simp)
                    case rest =>
                      clear HC15
                      try clear c1
                      try clear p1
                      try clear q1
                      try clear hx1
                      try clear qi1
                      try clear c2
                      try clear p2
                      try clear c4
                      try clear c4b0
                      try clear c4b1
                      try clear c5
                      try clear p6
                      try clear c7
                      try clear c7b0
                      try clear c7b1
                      try clear c7b2
                      try clear c9
                      try clear c9b0
                      try clear c9b1
                      try clear c11
                      try clear c12
                      try clear c12b0
                      try clear c13
                      try clear c13b0
                      try clear p13
                      try clear q13
                      try clear hx13
                      try clear qi13
                      try clear c14
                      try clear c14b0
                      try clear c14b1
                      try clear c17
                      try clear c17b0
                      try clear c17b1
                      try clear c19
                      try clear c19b0
                      try clear c20
                      try clear c20b0
                      try clear hx136_0
                      try clear hx137_0
                      try clear hx138_0
                      try clear p1
                      try clear p136
                      try clear p137
                      try clear p138
                      try clear p2
                      try clear q1
                      try clear q136
                      try clear q137
                      try clear q138
                      obtain ⟨kq, x55_14, rfl, HA, HJ14, HO_6, HO_8, HB⟩ := hcut
                      cases kq with
                      | zero => exact absurd HA.out (by simp [fm_Read.j2])
                      | succ kj14 =>
                        have H := HA.out
                        clear HA
                        simp only [fm_Read.j2] at H
                        by_cases c21 : x55_14 = true
                        · subst c21
                          have H1 : (some (([] : List Int), 3)) = some (r1, r2) := by rw [if_pos rfl] at H; exact H
                          clear H
                          have H := H1
                          clear H1
                          simp only [Option.some.injEq, Prod.mk.injEq] at H
                          obtain ⟨rfl, rfl⟩ := H
                          go_wp2
                          go_ret2
                          exact ⟨_, by first | rfl | (simp [errW_none, errW_some] <;> rfl) | (simp [*, errW_none, errW_some] <;> rfl), by first | exact Kd.R_nil _ _ _ _ _ | exact Kd.N_nil _ _ _ _ _ | exact Kd.V_nil _ _ _ _ _ | exact Kd.Q_nil _ _ _ _ _ | exact Kd.S_nil _ _ _ _ _, by repeat (first | (with_reducible first | exact HB.out | apply below_alloc | apply pw_below_drewN | apply below_drew1) | exact HB.out)⟩
                        · replace c21 := Bool.eq_false_iff.mpr c21
                          subst c21
                          have H1 : (if (wrap64 (x10_2 + 1)) = 8 then (if x8_2.length < 140737488355328 then (fm_Read.l0 kj14 t132 (x8_2 ++ [(wrap64 ((wrap64 (x9_2 * 2)) + 1)) % 256]) 0 0 (wrap64 ((wrap64 (x11_2 + 1)) + 1))) else (none)) else (fm_Read.l0 kj14 t132 x8_2 (wrap64 ((wrap64 (x9_2 * 2)) + 1)) (wrap64 (x10_2 + 1)) (wrap64 ((wrap64 (x11_2 + 1)) + 1)))) = some (r1, r2) := by rw [if_neg (show ¬ (false = true) by decide)] at H; exact H
                          clear H
                          have H := H1
                          clear H1
                          by_cases c22 : (wrap64 (x10_2 + 1)) = 8
                          · rw [if_pos c22] at H
                            have c22b0 : ((wrap64 (x10_2 + 1)) == 8) = true := beq_iff_eq.mpr c22
                            have c22b1 : ((wrap64 (x10_2 + 1)) != 8) = false := bne_eq_false_iff_eq.mpr c22
                            clear c22
                            by_cases c23 : x8_2.length < 140737488355328
                            · rw [if_pos c23] at H
                              have LMc23 := Aside0.mk c23
                              clear c23
                              obtain ⟨y139, hy139⟩ : ∃ y_ : List Int, y_ = (x8_2 ++ [(wrap64 ((wrap64 (x9_2 * 2)) + 1)) % 256]) := ⟨_, rfl⟩
                              replace H : (fm_Read.l0 kj14 t132 y139 0 0 (wrap64 ((wrap64 (x11_2 + 1)) + 1))) = some (r1, r2) := by first | (rw [hy139]; with_reducible exact H) | (have H2_ := (Option.bind_some _ _).symm.trans H; rw [hy139]; with_reducible exact H2_) | (have H2_ := (Option.bind_some _ _).symm.trans H; with_reducible exact H2_) | with_reducible exact H | (rw [hy139]; exact H) | exact H
                              have Ny139 := Aside0.mk hy139
                              clear hy139
                              have H' := Aside0.mk H
                              clear H
                              go_wp2_with (first | ((with_reducible refine gate_builtin (b := .append) (xs := #[.tmp 62, .tmp 65]) rfl ?_); at_builtin; refine Kd.R_append (Kd.int .u8) (w0 := w) w.heap.size rfl (.tmp 62) (.tmp 65) 22 5 (.int .u8 0) 1 rfl Try.underlying22 info5 rfl (by decide) (by omega) u8 x8_2 ((wrap64 ((wrap64 (x9_2 * 2)) + 1)) % 256) [.int .u8 ((wrap64 ((wrap64 (x9_2 * 2)) + 1)) % 256)] (fun _ => True) (fun _ => False) rfl rfl ?aP (fun _ hk => hk.elim) ?aF ?aO ?aB ?aS ?aL ?_; (case aP => exact rfl); (case aB => exact (by repeat (first | (with_reducible first | exact HB.out | apply below_alloc | apply pw_below_drewN | apply below_drew1) | exact HB.out))); (case aF => exact (fun _ _ => trivial)); (case aO => exact (by (with_reducible repeat (first | apply Kd.R_alloc | apply Kd.R_drewN | apply Kd.R_drew)); exact HO_8.out)); (case aS => exact (below_size (by repeat (first | (with_reducible first | exact HB.out | apply below_alloc | apply pw_below_drewN | apply below_drew1) | exact HB.out)))); (case aL => have := LMc23.out; omega); intro v140 w24 ho hb hg hat; rw [← Ny139.out] at ho; have n0_ := Aside0.mk (Kd.R_over' (by (with_reducible repeat (first | apply Kd.R_alloc | apply Kd.R_drewN | apply Kd.R_drew)); exact HO_6.out) (Kd.R_typed (by (with_reducible repeat (first | apply Kd.R_alloc | apply Kd.R_drewN | apply Kd.R_drew)); exact HO_8.out)) (by decide) hg); have n1_ := Aside0.mk (hb); have n2_ := Aside0.mk (ho); clear HO_6; clear HB; clear HO_8; have HO_6 := n0_; have HB := n1_; have HO141 := n2_; clear n0_ n1_ n2_; clear ho hb hg hat))
                              go_roundg kj14
                              case measure => have := HJ4.out; have := HK2.out; have := HJ14.out; omega
                              case rel => exact ⟨(y139), (0), (0), (wrap64 ((wrap64 (x11_2 + 1)) + 1)), (by first | rfl | (simp; done) | (simp [*]; done)), (by first | rfl | (simp; done) | (simp [*]; done)), (by first | rfl | (simp; done) | (simp [*]; done)), H', ⟨by have := HJ4.out; have := HK2.out; have := HJ14.out; omega⟩, ⟨by (with_reducible repeat (first | apply Kd.R_alloc | apply Kd.R_drewN | apply Kd.R_drew)); exact HO_6.out⟩, ⟨by (with_reducible repeat (first | apply Kd.R_alloc | apply Kd.R_drewN | apply Kd.R_drew)); exact HO141.out⟩, ⟨by repeat (first | (with_reducible first | exact HB.out | apply below_alloc | apply pw_below_drewN | apply below_drew1) | exact HB.out)⟩⟩
                            · rw [if_neg c23] at H
                              exact absurd H (by simp)
                          · rw [if_neg c22] at H
                            have c22b0 : ((wrap64 (x10_2 + 1)) == 8) = false := beq_eq_false_iff_ne.mpr c22
                            have c22b1 : ((wrap64 (x10_2 + 1)) != 8) = true := bne_iff_ne.mpr c22
                            have H' := Aside0.mk H
                            clear H
                            go_wp2
                            go_roundg kj14
                            case measure => have := HJ4.out; have := HK2.out; have := HJ14.out; omega
                            case rel => exact ⟨(x8_2), (wrap64 ((wrap64 (x9_2 * 2)) + 1)), (wrap64 (x10_2 + 1)), (wrap64 ((wrap64 (x11_2 + 1)) + 1)), (by first | rfl | (simp; done) | (simp [*]; done)), (by first | rfl | (simp; done) | (simp [*]; done)), (by first | rfl | (simp; done) | (simp [*]; done)), H', ⟨by have := HJ4.out; have := HK2.out; have := HJ14.out; omega⟩, ⟨by (with_reducible repeat (first | apply Kd.R_alloc | apply Kd.R_drewN | apply Kd.R_drew)); exact HO_6.out⟩, ⟨by (with_reducible repeat (first | apply Kd.R_alloc | apply Kd.R_drewN | apply Kd.R_drew)); exact HO_8.out⟩, ⟨by repeat (first | (with_reducible first | exact HB.out | apply below_alloc | apply pw_below_drewN | apply below_drew1) | exact HB.out)⟩⟩
                  · rw [if_neg c14] at H
                    have c14b0 : ((rd t132 x11_2) == 1) = false := beq_eq_false_iff_ne.mpr c14
                    have c14b1 : ((rd t132 x11_2) != 1) = true := bne_iff_ne.mpr c14
                    by_cases c25 : (wrap64 (x10_2 + 1)) = 8
                    · rw [if_pos c25] at H
                      have c25b0 : ((wrap64 (x10_2 + 1)) == 8) = true := beq_iff_eq.mpr c25
                      have c25b1 : ((wrap64 (x10_2 + 1)) != 8) = false := bne_eq_false_iff_eq.mpr c25
                      clear c25
                      by_cases c26 : x8_2.length < 140737488355328
                      · rw [if_pos c26] at H
                        have LMc26 := Aside0.mk c26
                        clear c26
                        obtain ⟨y142, hy142⟩ : ∃ y_ : List Int, y_ = (x8_2 ++ [(wrap64 (x9_2 * 2)) % 256]) := ⟨_, rfl⟩
                        replace H : (fm_Read.l0 k2 t132 y142 0 0 (wrap64 (x11_2 + 1))) = some (r1, r2) := by first | (rw [hy142]; with_reducible exact H) | (have H2_ := (Option.bind_some _ _).symm.trans H; rw [hy142]; with_reducible exact H2_) | (have H2_ := (Option.bind_some _ _).symm.trans H; with_reducible exact H2_) | with_reducible exact H | (rw [hy142]; exact H) | exact H
                        have Ny142 := Aside0.mk hy142
                        clear hy142
                        have H' := Aside0.mk H
                        clear H
                        obtain ⟨Ao27, co27, eo27⟩ := Kd.R_slice HO_6.out
                        subst eo27
                        have p137 : 0 ≤ (x11_2 : Int) := of_decide_eq_true (by first | (with_reducible assumption) | assumption)
                        have q137 : x11_2 < (t132.length : Int) := of_decide_eq_true (by first | (with_reducible assumption) | assumption)
                        obtain ⟨ad137, e137, hx137_0⟩ := Kd.at_int (Kd.R_reads' HO_6.out).2.2 x11_2 p137 q137
                        cases e137
                        replace p137 := eq_true p137
                        replace q137 := eq_true q137
                        go_wp2_with (first | ((with_reducible refine gate_builtin (b := .append) (xs := #[.tmp 62, .tmp 65]) rfl ?_); at_builtin; refine Kd.R_append (Kd.int .u8) (w0 := w) w.heap.size rfl (.tmp 62) (.tmp 65) 22 5 (.int .u8 0) 1 rfl Try.underlying22 info5 rfl (by decide) (by omega) u8 x8_2 ((wrap64 (x9_2 * 2)) % 256) [.int .u8 ((wrap64 (x9_2 * 2)) % 256)] (fun _ => True) (fun _ => False) rfl rfl ?aP (fun _ hk => hk.elim) ?aF ?aO ?aB ?aS ?aL ?_; (case aP => exact rfl); (case aB => exact (by repeat (first | (with_reducible first | exact HB.out | apply below_alloc | apply pw_below_drewN | apply below_drew1) | exact HB.out))); (case aF => exact (fun _ _ => trivial)); (case aO => exact (by (with_reducible repeat (first | apply Kd.R_alloc | apply Kd.R_drewN | apply Kd.R_drew)); exact HO_8.out)); (case aS => exact (below_size (by repeat (first | (with_reducible first | exact HB.out | apply below_alloc | apply pw_below_drewN | apply below_drew1) | exact HB.out)))); (case aL => have := LMc26.out; omega); intro v143 w28 ho hb hg hat; rw [← Ny142.out] at ho; have n0_ := Aside0.mk (Kd.R_over' (by (with_reducible repeat (first | apply Kd.R_alloc | apply Kd.R_drewN | apply Kd.R_drew)); exact HO_6.out) (Kd.R_typed (by (with_reducible repeat (first | apply Kd.R_alloc | apply Kd.R_drewN | apply Kd.R_drew)); exact HO_8.out)) (by decide) hg); have n1_ := Aside0.mk (hb); have n2_ := Aside0.mk (ho); clear HO_6; clear HB; clear HO_8; have HO_6 := n0_; have HB := n1_; have HO144 := n2_; clear n0_ n1_ n2_; clear ho hb hg hat))
                        go_roundg k2
                        case measure => have := HJ4.out; have := HK2.out; omega
                        case rel => exact ⟨(y142), (0), (0), (wrap64 (x11_2 + 1)), (by first | rfl | (simp; done) | (simp [*]; done)), (by first | rfl | (simp; done) | (simp [*]; done)), (by first | rfl | (simp; done) | (simp [*]; done)), H', ⟨by have := HJ4.out; have := HK2.out; omega⟩, ⟨by (with_reducible repeat (first | apply Kd.R_alloc | apply Kd.R_drewN | apply Kd.R_drew)); exact HO_6.out⟩, ⟨by (with_reducible repeat (first | apply Kd.R_alloc | apply Kd.R_drewN | apply Kd.R_drew)); exact HO144.out⟩, ⟨by repeat (first | (with_reducible first | exact HB.out | apply below_alloc | apply pw_below_drewN | apply below_drew1) | exact HB.out)⟩⟩
                      · rw [if_neg c26] at H
                        exact absurd H (by simp)
                    · rw [if_neg c25] at H
                      have c25b0 : ((wrap64 (x10_2 + 1)) == 8) = false := beq_eq_false_iff_ne.mpr c25
                      have c25b1 : ((wrap64 (x10_2 + 1)) != 8) = true := bne_iff_ne.mpr c25
                      have H' := Aside0.mk H
                      clear H
                      obtain ⟨Ao29, co29, eo29⟩ := Kd.R_slice HO_6.out
                      subst eo29
                      have p137 : 0 ≤ (x11_2 : Int) := of_decide_eq_true (by first | (with_reducible assumption) | assumption)
                      have q137 : x11_2 < (t132.length : Int) := of_decide_eq_true (by first | (with_reducible assumption) | assumption)
                      obtain ⟨ad137, e137, hx137_0⟩ := Kd.at_int (Kd.R_reads' HO_6.out).2.2 x11_2 p137 q137
                      cases e137
                      replace p137 := eq_true p137
                      replace q137 := eq_true q137
                      go_wp2
                      go_roundg k2
                      case measure => have := HJ4.out; have := HK2.out; omega
                      case rel => exact ⟨(x8_2), (wrap64 (x9_2 * 2)), (wrap64 (x10_2 + 1)), (wrap64 (x11_2 + 1)), (by first | rfl | (simp; done) | (simp [*]; done)), (by first | rfl | (simp; done) | (simp [*]; done)), (by first | rfl | (simp; done) | (simp [*]; done)), H', ⟨by have := HJ4.out; have := HK2.out; omega⟩, ⟨by (with_reducible repeat (first | apply Kd.R_alloc | apply Kd.R_drewN | apply Kd.R_drew)); exact HO_6.out⟩, ⟨by (with_reducible repeat (first | apply Kd.R_alloc | apply Kd.R_drewN | apply Kd.R_drew)); exact HO_8.out⟩, ⟨by repeat (first | (with_reducible first | exact HB.out | apply below_alloc | apply pw_below_drewN | apply below_drew1) | exact HB.out)⟩⟩
                · rw [if_neg c13] at H
                  exact absurd H (by simp)
              · rw [if_neg c12] at H
                have c12b0 : decide (x11_2 < (t132.length : Int)) = false := decide_eq_false c12
                clear c12
                by_cases c30 : x10_2 > 0
                · rw [if_pos c30] at H
                  have c30b0 : decide (0 < x10_2) = true := decide_eq_true c30
                  clear c30
                  simp only [Option.some.injEq, Prod.mk.injEq] at H
                  obtain ⟨rfl, rfl⟩ := H
                  obtain ⟨Ao31, co31, eo31⟩ := Kd.R_slice HO_6.out
                  subst eo31
                  go_wp2
                  go_ret2
                  exact ⟨_, by first | rfl | (simp [errW_none, errW_some] <;> rfl) | (simp [*, errW_none, errW_some] <;> rfl), by first | exact Kd.R_nil _ _ _ _ _ | exact Kd.N_nil _ _ _ _ _ | exact Kd.V_nil _ _ _ _ _ | exact Kd.Q_nil _ _ _ _ _ | exact Kd.S_nil _ _ _ _ _, by repeat (first | (with_reducible first | exact HB.out | apply below_alloc | apply pw_below_drewN | apply below_drew1) | exact HB.out)⟩
                · rw [if_neg c30] at H
                  have c30b0 : decide (0 < x10_2) = false := decide_eq_false c30
                  clear c30
                  by_cases c32 : (x8_2.length : Int) > 2000
                  · rw [if_pos c32] at H
                    have c32b0 : decide (2000 < (x8_2.length : Int)) = true := decide_eq_true c32
                    have c32b1 : decide (2000 < x8_2.length) = true := decide_eq_true (by omega)
                    clear c32
                    simp only [Option.some.injEq, Prod.mk.injEq] at H
                    obtain ⟨rfl, rfl⟩ := H
                    obtain ⟨Ao33, co33, eo33⟩ := Kd.R_slice HO_6.out
                    subst eo33
                    obtain ⟨Ao34, co34, eo34⟩ := Kd.R_slice HO_8.out
                    subst eo34
                    go_wp2
                    go_ret2
                    exact ⟨_, by first | rfl | (simp [errW_none, errW_some] <;> rfl) | (simp [*, errW_none, errW_some] <;> rfl), by first | exact Kd.R_nil _ _ _ _ _ | exact Kd.N_nil _ _ _ _ _ | exact Kd.V_nil _ _ _ _ _ | exact Kd.Q_nil _ _ _ _ _ | exact Kd.S_nil _ _ _ _ _, by repeat (first | (with_reducible first | exact HB.out | apply below_alloc | apply pw_below_drewN | apply below_drew1) | exact HB.out)⟩
                  · rw [if_neg c32] at H
                    have c32b0 : decide (2000 < (x8_2.length : Int)) = false := decide_eq_false c32
                    have c32b1 : decide (2000 < x8_2.length) = false := decide_eq_false (by omega)
                    clear c32
                    simp only [Option.some.injEq, Prod.mk.injEq] at H
                    obtain ⟨rfl, rfl⟩ := H
                    obtain ⟨Ao35, co35, eo35⟩ := Kd.R_slice HO_6.out
                    subst eo35
                    obtain ⟨Ao36, co36, eo36⟩ := Kd.R_slice HO_8.out
                    subst eo36
                    go_wp2
                    go_ret2
                    exact ⟨_, by first | rfl | (simp [errW_none, errW_some] <;> rfl) | (simp [*, errW_none, errW_some] <;> rfl), by (with_reducible repeat (first | apply Kd.R_alloc | apply Kd.R_drewN | apply Kd.R_drew)); exact HO_8.out, by repeat (first | (with_reducible first | exact HB.out | apply below_alloc | apply pw_below_drewN | apply below_drew1) | exact HB.out)⟩
  · rw [if_neg c4] at H
    have c4b0 : (t133 == 0) = false := beq_eq_false_iff_ne.mpr c4
    have c4b1 : (t133 != 0) = true := bne_iff_ne.mpr c4
    simp only [Option.some.injEq, Prod.mk.injEq] at H
    obtain ⟨rfl, rfl⟩ := H
    go_enter Try.func52, Try.ntmps52
    go_wp2_with (first | ((with_reducible refine gate_callee (f := 78) rfl ?_); refine goesL_ (some 15) rfl rfl Try.func78 (by kernel_rfl) rfl #[.slice A0 l0.length c0, .int .i64 a1, .int .i64 2] rfl (by (try simp only [List.map_toArray, List.map_cons, List.map_nil]); first | done | rfl | (simp only [List.length_drop, List.length_take]; rfl)) ?_; (with_reducible refine (flux_Cells.calls k _ _ l0 a1 2 t132 t133 _ ?side1 ?side2 A3.out).mono ?_); (case side1 => repeat (first | exact HR0.out | (with_reducible refine Kd.C_alloc ?_ _) | (with_reducible refine Kd.C_drewN ?_ _) | (with_reducible refine Kd.C_drew ?_))); (case side2 => exact HC0.out); rintro e w37 ⟨v134, rfl, ho0, hb⟩; refine ⟨_, rfl, ?_⟩; have n0_ := Aside0.mk (Kd.R_lower ho0 (below_size (by repeat (first | (with_reducible first | exact HB.out | apply below_alloc | apply pw_below_drewN | apply below_drew1) | exact HB.out)))); have n1_ := Aside0.mk (below_step (by repeat (first | (with_reducible first | exact HB.out | apply below_alloc | apply pw_below_drewN | apply below_drew1) | exact HB.out)) hb); clear HB; have HO135 := n0_; have HB := n1_; clear n0_ n1_; (try clear hb); (try clear hb2); (try clear hk); (try clear hi); (try clear ho0)))
    go_ret2
    exact ⟨_, by first | rfl | (simp [errW_none, errW_some] <;> rfl) | (simp [*, errW_none, errW_some] <;> rfl), by first | exact Kd.R_nil _ _ _ _ _ | exact Kd.N_nil _ _ _ _ _ | exact Kd.V_nil _ _ _ _ _ | exact Kd.Q_nil _ _ _ _ _ | exact Kd.S_nil _ _ _ _ _, by repeat (first | (with_reducible first | exact HB.out | apply below_alloc | apply pw_below_drewN | apply below_drew1) | exact HB.out)⟩

/-! ### bakeref2_Bits: function 27 -/
mutual
def bakeref2_Bits.l0 : Nat → List Bool → List Int → Int → Int → Option (List Bool)
  | 0, _, _, _, _ => none
  | k + 1, x3, x7, x8, x9 => if x9 < x8 then (if 0 ≤ x9 then (if x9 < (x7.length : Int) then (bakeref2_Bits.l1 k x3 (rd x7 x9) x7 x8 x9 0) else (none)) else (none)) else (some x3)
def bakeref2_Bits.l1 : Nat → List Bool → Int → List Int → Int → Int → Int → Option (List Bool)
  | 0, _, _, _, _, _, _ => none
  | k + 1, x3, x5, x7, x8, x9, x13 => if x13 < 8 then (if 0 ≤ x13 then (if x3.length < 140737488355328 then (bakeref2_Bits.l1 k (x3 ++ [decide ((shl .u8 x5 x13) ≥ 128)]) x5 x7 x8 x9 (wrap64 (x13 + 1))) else (none)) else (none)) else (bakeref2_Bits.l0 k x3 x7 x8 (wrap64 (x9 + 1)))
end
def bakeref2_Bits.f (k : Nat) (l0 : List Int) : Option (List Bool) := bakeref2_Bits.l0 k ([] : List Bool) l0 (l0.length : Int) 0
theorem bakeref2_Bits.mono_l : ∀ k, (∀ y0 y1 y2 y3, LeO (bakeref2_Bits.l0 k y0 y1 y2 y3) (bakeref2_Bits.l0 (k + 1) y0 y1 y2 y3)) ∧ (∀ y0 y1 y2 y3 y4 y5, LeO (bakeref2_Bits.l1 k y0 y1 y2 y3 y4 y5) (bakeref2_Bits.l1 (k + 1) y0 y1 y2 y3 y4 y5))
  | 0 => ⟨fun _ _ _ _ r h => by simp [bakeref2_Bits.l0] at h, fun _ _ _ _ _ _ r h => by simp [bakeref2_Bits.l1] at h⟩
  | k + 1 => by
    obtain ⟨ih0, ih1⟩ := bakeref2_Bits.mono_l k
    refine ⟨?_, ?_⟩
    · intro y0 y1 y2 y3
      unfold bakeref2_Bits.l0
      repeat' first
      | (with_reducible exact ih0 _ _ _ _)
      | (with_reducible exact ih1 _ _ _ _ _ _)
      | (with_reducible exact LeO.refl _)
      | (with_reducible exact LeO.none _)
      | (with_reducible refine LeO.ite ?_ ?_)
      | (with_reducible refine LeO.bind ?_ (fun _ => ?_))
      | exact ih0 _ _ _ _
      | exact ih1 _ _ _ _ _ _
      | exact LeO.none _
      | refine LeO.ite ?_ ?_
      | refine LeO.bind ?_ (fun _ => ?_)
    · intro y0 y1 y2 y3 y4 y5
      unfold bakeref2_Bits.l1
      repeat' first
      | (with_reducible exact ih0 _ _ _ _)
      | (with_reducible exact ih1 _ _ _ _ _ _)
      | (with_reducible exact LeO.refl _)
      | (with_reducible exact LeO.none _)
      | (with_reducible refine LeO.ite ?_ ?_)
      | (with_reducible refine LeO.bind ?_ (fun _ => ?_))
      | exact ih0 _ _ _ _
      | exact ih1 _ _ _ _ _ _
      | exact LeO.none _
      | refine LeO.ite ?_ ?_
      | refine LeO.bind ?_ (fun _ => ?_)
theorem bakeref2_Bits.mono : ∀ a0 k, LeO (bakeref2_Bits.f k a0) (bakeref2_Bits.f (k + 1) a0) := by
  intro a0 k
  obtain ⟨ih0, ih1⟩ := bakeref2_Bits.mono_l k
  unfold bakeref2_Bits.f
  repeat' first
      | (with_reducible exact ih0 _ _ _ _)
      | (with_reducible exact ih1 _ _ _ _ _ _)
      | (with_reducible exact LeO.refl _)
      | (with_reducible exact LeO.none _)
      | (with_reducible refine LeO.ite ?_ ?_)
      | (with_reducible refine LeO.bind ?_ (fun _ => ?_))
      | exact ih0 _ _ _ _
      | exact ih1 _ _ _ _ _ _
      | exact LeO.none _
      | refine LeO.ite ?_ ?_
      | refine LeO.bind ?_ (fun _ => ?_)
set_option maxHeartbeats 8000000 in
set_option maxRecDepth 100000 in
theorem bakeref2_Bits.calls (k : Nat) (A0 : Option Addr) (c0 : Nat) (l0 : List Int) (r : List Bool) (w : World) (hr0 : Kd.C (Kd.int .u8) w A0 l0.length l0) (hc0 : l0.length ≤ c0) (h : bakeref2_Bits.f k l0 = some r) :
    Calls Try.prog 27 #[.slice A0 l0.length c0] w fun e w' => ∃ v0_ : Value, e = .returned (v0_) ∧ Kd.R Kd.bool 4 w' w.heap.size (fun _ => True) v0_ r ∧ Below w.heap.size w w' := by
  have HR0 := Aside0.mk hr0
  have HC0 := Aside0.mk hc0
  clear hr0 hc0
  have HB := Aside0.mk (Below.refl w.heap.size w)
  have H : (bakeref2_Bits.l0 k ([] : List Bool) l0 (l0.length : Int) 0) = some r := h
  clear h
  have H' := Aside0.mk H
  clear H
  go_enter Try.func27, Try.ntmps27
  go_wp2
  go_loopg [3, 9] k (fun kq v3 v9 w' => ∃ (x3_1 : List Bool) (x9_1 : Int), v9 = .int .i64 x9_1 ∧ Aside0 (bakeref2_Bits.l0 kq x3_1 l0 (l0.length : Int) x9_1 = some r) ∧ Aside0 (kq ≤ k) ∧ Aside0 (Kd.R Kd.bool 4 w' w.heap.size (fun _ => True) v3 x3_1) ∧ Aside0 (Below w.heap.size w w'))
  case atStart => exact ⟨(([] : List Bool)), (0), (by first | rfl | (simp; done) | (simp [*]; done)), H', ⟨Nat.le_refl _⟩, ⟨by first | exact Kd.R_nil _ _ _ _ _ | exact Kd.N_nil _ _ _ _ _ | exact Kd.V_nil _ _ _ _ _ | exact Kd.Q_nil _ _ _ _ _ | exact Kd.S_nil _ _ _ _ _⟩, ⟨by repeat (first | (with_reducible first | exact HB.out | apply below_alloc | apply pw_below_drewN | apply below_drew1) | exact HB.out)⟩⟩
  case round =>
    clear H'
    obtain ⟨x3_1, x9_1, rfl, HA, HK1, HO_3, HB⟩ := hrel
    cases gk with
    | zero => exact absurd HA.out (by simp [bakeref2_Bits.l0])
    | succ k1 =>
      have H := HA.out
      clear HA
      simp only [bakeref2_Bits.l0] at H
      by_cases c2 : x9_1 < (l0.length : Int)
      · rw [if_pos c2] at H
        have c2b0 : decide (x9_1 < (l0.length : Int)) = true := decide_eq_true c2
        clear c2
        by_cases c3 : 0 ≤ x9_1
        · rw [if_pos c3] at H
          have c3b0 : decide (0 ≤ x9_1) = true := decide_eq_true c3
          clear c3
          by_cases c4 : x9_1 < (l0.length : Int)
          · rw [if_pos c4] at H
            have c4b0 : decide (x9_1 < (l0.length : Int)) = true := decide_eq_true c4
            clear c4
            have H' := Aside0.mk H
            clear H
            have p145 : 0 ≤ (x9_1 : Int) := of_decide_eq_true (by first | (with_reducible assumption) | assumption)
            have q145 : x9_1 < (l0.length : Int) := of_decide_eq_true (by first | (with_reducible assumption) | assumption)
            obtain ⟨ad145, e145, hx145_0⟩ := Kd.at_int HR0.out x9_1 p145 q145
            cases e145
            replace hx145_0 := (HB.out.cell (World.block_lt_of_cell? w _ hx145_0)).trans hx145_0
            replace p145 := eq_true p145
            replace q145 := eq_true q145
            go_wp2
            go_loopg [3, 13] k1 (fun kq v3 v13 w' => ∃ (x3_2 : List Bool) (x13_2 : Int), v13 = .int .i64 x13_2 ∧ Aside0 (bakeref2_Bits.l1 kq x3_2 (rd l0 x9_1) l0 (l0.length : Int) x9_1 x13_2 = some r) ∧ Aside0 (kq ≤ k1) ∧ Aside0 (Kd.R Kd.bool 4 w' w.heap.size (fun _ => True) v3 x3_2) ∧ Aside0 (Below w.heap.size w w'))
            case atStart => exact ⟨(x3_1), (0), (by first | rfl | (simp; done) | (simp [*]; done)), H', ⟨Nat.le_refl _⟩, ⟨by (with_reducible repeat (first | apply Kd.R_alloc | apply Kd.R_drewN | apply Kd.R_drew)); exact HO_3.out⟩, ⟨by repeat (first | (with_reducible first | exact HB.out | apply below_alloc | apply pw_below_drewN | apply below_drew1) | exact HB.out)⟩⟩
            case round =>
              clear H'
              try clear p1
              try clear q1
              try clear hx1
              try clear c2
              try clear c2b0
              try clear p2
              try clear c3
              try clear c3b0
              try clear c4
              try clear c4b0
              try clear hx145_0
              try clear p145
              try clear q145
              obtain ⟨x3_2, x13_2, rfl, HA, HK2, HO_3, HB⟩ := hrel
              cases gk with
              | zero => exact absurd HA.out (by simp [bakeref2_Bits.l1])
              | succ k2 =>
                have H := HA.out
                clear HA
                simp only [bakeref2_Bits.l1] at H
                by_cases c5 : x13_2 < 8
                · rw [if_pos c5] at H
                  have c5b0 : decide (x13_2 < 8) = true := decide_eq_true c5
                  clear c5
                  by_cases c6 : 0 ≤ x13_2
                  · rw [if_pos c6] at H
                    have c6b0 := eq_true c6
                    have c6b1 : decide (0 ≤ x13_2) = true := decide_eq_true c6
                    clear c6
                    obtain ⟨ji7, hji7⟩ : ∃ j_ : Int, (shl .u8 (rd l0 x9_1) x13_2) = j_ := ⟨_, rfl⟩
                    replace H : (if x3_2.length < 140737488355328 then (bakeref2_Bits.l1 k2 (x3_2 ++ [decide ((ji7) ≥ 128)]) (rd l0 x9_1) l0 (l0.length : Int) x9_1 (wrap64 (x13_2 + 1))) else (none)) = some r := by first | (rw [hji7] at H; exact H) | (simp only [hji7] at H ⊢; exact H)
                    have hji7_ : (IntKind.u8.wrap ((rd l0 x9_1) * 2 ^ min x13_2.toNat 8)) = ji7 := hji7
                    have hji7z : x13_2 ≤ 8 → (IntKind.u8.wrap ((rd l0 x9_1) * 2 ^ x13_2.toNat)) = ji7 := shl_small hji7
                    by_cases c8 : x3_2.length < 140737488355328
                    · rw [if_pos c8] at H
                      have LMc8 := Aside0.mk c8
                      clear c8
                      obtain ⟨y146, hy146⟩ : ∃ y_ : List Bool, y_ = (x3_2 ++ [decide ((ji7) ≥ 128)]) := ⟨_, rfl⟩
                      replace H : (bakeref2_Bits.l1 k2 y146 (rd l0 x9_1) l0 (l0.length : Int) x9_1 (wrap64 (x13_2 + 1))) = some r := by first | (rw [hy146]; with_reducible exact H) | (have H2_ := (Option.bind_some _ _).symm.trans H; rw [hy146]; with_reducible exact H2_) | (have H2_ := (Option.bind_some _ _).symm.trans H; with_reducible exact H2_) | with_reducible exact H | (rw [hy146]; exact H) | exact H
                      have Ny146 := Aside0.mk hy146
                      clear hy146
                      have H' := Aside0.mk H
                      clear H
                      go_wp2_with (first | ((with_reducible refine gate_builtin (b := .append) (xs := #[.tmp 16, .tmp 21]) rfl ?_); at_builtin; refine Kd.R_append Kd.bool (w0 := w) w.heap.size rfl (.tmp 16) (.tmp 21) 39 4 (.bool false) 1 rfl Try.underlying39 info4 rfl (by decide) (by omega) u3 x3_2 (decide ((ji7) ≥ 128)) [.bool (decide ((ji7) ≥ 128))] (fun _ => True) (fun _ => False) rfl rfl ?aP (fun _ hk => hk.elim) ?aF ?aO ?aB ?aS ?aL ?_; (case aP => exact rfl); (case aB => exact (by repeat (first | (with_reducible first | exact HB.out | apply below_alloc | apply pw_below_drewN | apply below_drew1) | exact HB.out))); (case aF => exact (fun _ _ => trivial)); (case aO => exact (by (with_reducible repeat (first | apply Kd.R_alloc | apply Kd.R_drewN | apply Kd.R_drew)); exact HO_3.out)); (case aS => exact (below_size (by repeat (first | (with_reducible first | exact HB.out | apply below_alloc | apply pw_below_drewN | apply below_drew1) | exact HB.out)))); (case aL => have := LMc8.out; omega); intro v147 w9 ho hb hg hat; rw [← Ny146.out] at ho; have n0_ := Aside0.mk (hb); have n1_ := Aside0.mk (ho); clear HB; clear HO_3; have HB := n0_; have HO148 := n1_; clear n0_ n1_; clear ho hb hg hat))
                      go_roundg k2
                      case measure => have := HK1.out; have := HK2.out; omega
                      case rel => exact ⟨(y146), (wrap64 (x13_2 + 1)), (by first | rfl | (simp; done) | (simp [*]; done)), H', ⟨by have := HK1.out; have := HK2.out; omega⟩, ⟨by (with_reducible repeat (first | apply Kd.R_alloc | apply Kd.R_drewN | apply Kd.R_drew)); exact HO148.out⟩, ⟨by repeat (first | (with_reducible first | exact HB.out | apply below_alloc | apply pw_below_drewN | apply below_drew1) | exact HB.out)⟩⟩
                    · rw [if_neg c8] at H
                      exact absurd H (by simp)
                  · rw [if_neg c6] at H
                    exact absurd H (by simp)
                · rw [if_neg c5] at H
                  have c5b0 : decide (x13_2 < 8) = false := decide_eq_false c5
                  clear c5
                  have H' := Aside0.mk H
                  clear H
                  go_wp2
                  go_roundg k2
                  case measure => have := HK1.out; have := HK2.out; omega
                  case rel => exact ⟨(x3_2), (wrap64 (x9_1 + 1)), (by first | rfl | (simp; done) | (simp [*]; done)), H', ⟨by have := HK1.out; have := HK2.out; omega⟩, ⟨by (with_reducible repeat (first | apply Kd.R_alloc | apply Kd.R_drewN | apply Kd.R_drew)); exact HO_3.out⟩, ⟨by repeat (first | (with_reducible first | exact HB.out | apply below_alloc | apply pw_below_drewN | apply below_drew1) | exact HB.out)⟩⟩
          · rw [if_neg c4] at H
            exact absurd H (by simp)
        · rw [if_neg c3] at H
          exact absurd H (by simp)
      · rw [if_neg c2] at H
        have c2b0 : decide (x9_1 < (l0.length : Int)) = false := decide_eq_false c2
        clear c2
        obtain rfl := Option.some.inj H
        go_wp2
        go_ret
        exact ⟨_, by first | rfl | (simp [errW_none, errW_some] <;> rfl) | (simp [*, errW_none, errW_some] <;> rfl), by (with_reducible repeat (first | apply Kd.R_alloc | apply Kd.R_drewN | apply Kd.R_drew)); exact HO_3.out, by repeat (first | (with_reducible first | exact HB.out | apply below_alloc | apply pw_below_drewN | apply below_drew1) | exact HB.out)⟩

end Go.Proofs.Ytgiodeiibmbhhaa.PFmWrites
