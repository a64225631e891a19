-- Written by this session's own program (wip/mp, over the kit's print) for this claim; Lean checks it.
import Derived.Test.YtmedmifkeliepaaPGcrWritesx0
import Derived.Test.YtmedmifkeliepaaPGcrWritesx1
import Derived.Test.YtmedmifkeliepaaPGcrWritesx2
namespace Go.Proofs.Ytmedmifkeliepaa.PGcrWrites
open Go.RowKit Go.Proofs.YtmedmifkeliepaaW.PrintWords Go.Proofs.YtmedmifkeliepaaW.PrintLast Go.Proofs.YtmedmifkeliepaaW.PrintMore
attribute [local go_sem] max2_int min2_int max_two min_two max_three min_three max_four min_four   -- for this text's walks alone
set_option linter.unusedVariables false
set_option linter.unusedSimpArgs false

/-! ### gcr_Read: function 7 -/
mutual
def gcr_Read.l0 : Nat → List Int → List Int → Int → Int → Option (List Int × Int)
  | 0, _, _, _, _ => none
  | k + 1, x8, x29, x30, x31 => if x31 < x30 then (if 0 ≤ x31 then (if x31 < (x29.length : Int) then (if 0 ≤ (rd x29 x31) then (if x8.length + (rd x29 x31 : Int).toNat < 17592186044416 then ((some (x8 ++ List.replicate (rd x29 x31 : Int).toNat 0 : List Int)).bind fun y140 => (if 0 ≤ (wrap64 ((y140.length : Int) - 1)) then (if (wrap64 ((y140.length : Int) - 1)) < (y140.length : Int) then (gcr_Read.l0 k (y140.set ((wrap64 ((y140.length : Int) - 1)) : Int).toNat 1) x29 x30 (wrap64 (x31 + 1))) else (none)) else (none))) else (none)) else (none)) else (none)) else (none)) else (if (x8.length : Int) = 0 then (some (([] : List Int), 3)) else (if 0 ≤ (wrap64 ((x8.length : Int) - 1)) then (if (wrap64 ((x8.length : Int) - 1)) ≤ (x8.length : Int) then ((some (x8.take ((wrap64 ((x8.length : Int) - 1)) : Int).toNat : List Int)).bind fun y144 => (if ((y144.length : Int) % 10) = 0 then (if (y144.length : Int) > 20000 then (some (([] : List Int), 2)) else ((gcr_Codes.f).bind fun t147 => (gcr_Read.l1 k y144 ([] : List Int) t147 0))) else (some (([] : List Int), 13)))) else (none)) else (none)))
def gcr_Read.l1 : Nat → List Int → List Int → List Int → Int → Option (List Int × Int)
  | 0, _, _, _, _ => none
  | k + 1, x8, x11, x12, x13 => if x13 < (x8.length : Int) then (gcr_Read.l2 k x8 x11 x12 x13 0 x13) else (some (x11, 0))
def gcr_Read.l2 : Nat → List Int → List Int → List Int → Int → Int → Int → Option (List Int × Int)
  | 0, _, _, _, _, _, _ => none
  | k + 1, x8, x11, x12, x13, x14, x15 => if x15 < (wrap64 (x13 + 10)) then (if 0 ≤ x15 then (if x15 ≤ (wrap64 (x15 + 5)) then (if (wrap64 (x15 + 5)) ≤ (x8.length : Int) then ((some ((x8.take ((wrap64 (x15 + 5)) : Int).toNat).drop (x15 : Int).toNat : List Int)).bind fun y153 => (gcr_Read.l3 k x8 x11 x12 x13 x14 x15 0 y153 (y153.length : Int) 0)) else (none)) else (none)) else (none)) else (if x11.length < 140737488355328 then (gcr_Read.l1 k x8 (x11 ++ [(x14) % 256]) x12 (wrap64 (x13 + 10))) else (none))
def gcr_Read.l3 : Nat → List Int → List Int → List Int → Int → Int → Int → Int → List Int → Int → Int → Option (List Int × Int)
  | 0, _, _, _, _, _, _, _, _, _, _ => none
  | k + 1, x8, x11, x12, x13, x14, x15, x16, x77, x78, x79 => if x79 < x78 then (if 0 ≤ x79 then (if x79 < (x77.length : Int) then (gcr_Read.l3 k x8 x11 x12 x13 x14 x15 (wrap64 ((wrap64 (x16 * 2)) + (rd x77 x79))) x77 x78 (wrap64 (x79 + 1))) else (none)) else (none)) else ((slices_Index_int_int.f k x12 x16).bind fun t158 => (if t158 < 0 then (some (([] : List Int), 3)) else (gcr_Read.l2 k x8 x11 x12 x13 (wrap64 ((wrap64 (x14 * 16)) + t158)) (wrap64 (x15 + 5)))))
end
def gcr_Read.f (k : Nat) (l0 : List Int) (a1 : Int) : Option (List Int × Int) := (flux_Cells.f k l0 a1 3).bind fun bt135 => (if bt135.2 = 0 then (gcr_Read.l0 k ([] : List Int) bt135.1 (bt135.1.length : Int) 0) else (some (([] : List Int), bt135.2)))
theorem gcr_Read.mono_l : ∀ k, (∀ y0 y1 y2 y3, LeO (gcr_Read.l0 k y0 y1 y2 y3) (gcr_Read.l0 (k + 1) y0 y1 y2 y3)) ∧ (∀ y0 y1 y2 y3, LeO (gcr_Read.l1 k y0 y1 y2 y3) (gcr_Read.l1 (k + 1) y0 y1 y2 y3)) ∧ (∀ y0 y1 y2 y3 y4 y5, LeO (gcr_Read.l2 k y0 y1 y2 y3 y4 y5) (gcr_Read.l2 (k + 1) y0 y1 y2 y3 y4 y5)) ∧ (∀ y0 y1 y2 y3 y4 y5 y6 y7 y8 y9, LeO (gcr_Read.l3 k y0 y1 y2 y3 y4 y5 y6 y7 y8 y9) (gcr_Read.l3 (k + 1) y0 y1 y2 y3 y4 y5 y6 y7 y8 y9))
  | 0 => ⟨fun _ _ _ _ r h => by simp [gcr_Read.l0] at h, fun _ _ _ _ r h => by simp [gcr_Read.l1] at h, fun _ _ _ _ _ _ r h => by simp [gcr_Read.l2] at h, fun _ _ _ _ _ _ _ _ _ _ r h => by simp [gcr_Read.l3] at h⟩
  | k + 1 => by
    obtain ⟨ih0, ih1, ih2, ih3⟩ := gcr_Read.mono_l k
    refine ⟨?_, ?_, ?_, ?_⟩
    · intro y0 y1 y2 y3
      unfold gcr_Read.l0
      repeat' first
      | (with_reducible exact ih0 _ _ _ _)
      | (with_reducible exact ih1 _ _ _ _)
      | (with_reducible exact ih2 _ _ _ _ _ _)
      | (with_reducible exact ih3 _ _ _ _ _ _ _ _ _ _)
      | (with_reducible exact flux_Cells.mono _ _ _ _)
      | (with_reducible exact slices_Index_int_int.mono _ _ _)
      | (with_reducible exact LeO.refl _)
      | (with_reducible exact LeO.none _)
      | (with_reducible refine LeO.ite ?_ ?_)
      | (with_reducible refine LeO.bind ?_ (fun _ => ?_))
      | exact ih0 _ _ _ _
      | exact ih1 _ _ _ _
      | exact ih2 _ _ _ _ _ _
      | exact ih3 _ _ _ _ _ _ _ _ _ _
      | exact flux_Cells.mono _ _ _ _
      | exact slices_Index_int_int.mono _ _ _
      | exact LeO.none _
      | refine LeO.ite ?_ ?_
      | refine LeO.bind ?_ (fun _ => ?_)
    · intro y0 y1 y2 y3
      unfold gcr_Read.l1
      repeat' first
      | (with_reducible exact ih0 _ _ _ _)
      | (with_reducible exact ih1 _ _ _ _)
      | (with_reducible exact ih2 _ _ _ _ _ _)
      | (with_reducible exact ih3 _ _ _ _ _ _ _ _ _ _)
      | (with_reducible exact flux_Cells.mono _ _ _ _)
      | (with_reducible exact slices_Index_int_int.mono _ _ _)
      | (with_reducible exact LeO.refl _)
      | (with_reducible exact LeO.none _)
      | (with_reducible refine LeO.ite ?_ ?_)
      | (with_reducible refine LeO.bind ?_ (fun _ => ?_))
      | exact ih0 _ _ _ _
      | exact ih1 _ _ _ _
      | exact ih2 _ _ _ _ _ _
      | exact ih3 _ _ _ _ _ _ _ _ _ _
      | exact flux_Cells.mono _ _ _ _
      | exact slices_Index_int_int.mono _ _ _
      | exact LeO.none _
      | refine LeO.ite ?_ ?_
      | refine LeO.bind ?_ (fun _ => ?_)
    · intro y0 y1 y2 y3 y4 y5
      unfold gcr_Read.l2
      repeat' first
      | (with_reducible exact ih0 _ _ _ _)
      | (with_reducible exact ih1 _ _ _ _)
      | (with_reducible exact ih2 _ _ _ _ _ _)
      | (with_reducible exact ih3 _ _ _ _ _ _ _ _ _ _)
      | (with_reducible exact flux_Cells.mono _ _ _ _)
      | (with_reducible exact slices_Index_int_int.mono _ _ _)
      | (with_reducible exact LeO.refl _)
      | (with_reducible exact LeO.none _)
      | (with_reducible refine LeO.ite ?_ ?_)
      | (with_reducible refine LeO.bind ?_ (fun _ => ?_))
      | exact ih0 _ _ _ _
      | exact ih1 _ _ _ _
      | exact ih2 _ _ _ _ _ _
      | exact ih3 _ _ _ _ _ _ _ _ _ _
      | exact flux_Cells.mono _ _ _ _
      | exact slices_Index_int_int.mono _ _ _
      | exact LeO.none _
      | refine LeO.ite ?_ ?_
      | refine LeO.bind ?_ (fun _ => ?_)
    · intro y0 y1 y2 y3 y4 y5 y6 y7 y8 y9
      unfold gcr_Read.l3
      repeat' first
      | (with_reducible exact ih0 _ _ _ _)
      | (with_reducible exact ih1 _ _ _ _)
      | (with_reducible exact ih2 _ _ _ _ _ _)
      | (with_reducible exact ih3 _ _ _ _ _ _ _ _ _ _)
      | (with_reducible exact flux_Cells.mono _ _ _ _)
      | (with_reducible exact slices_Index_int_int.mono _ _ _)
      | (with_reducible exact LeO.refl _)
      | (with_reducible exact LeO.none _)
      | (with_reducible refine LeO.ite ?_ ?_)
      | (with_reducible refine LeO.bind ?_ (fun _ => ?_))
      | exact ih0 _ _ _ _
      | exact ih1 _ _ _ _
      | exact ih2 _ _ _ _ _ _
      | exact ih3 _ _ _ _ _ _ _ _ _ _
      | exact flux_Cells.mono _ _ _ _
      | exact slices_Index_int_int.mono _ _ _
      | exact LeO.none _
      | refine LeO.ite ?_ ?_
      | refine LeO.bind ?_ (fun _ => ?_)
theorem gcr_Read.mono : ∀ a0 a1 k, LeO (gcr_Read.f k a0 a1) (gcr_Read.f (k + 1) a0 a1) := by
  intro a0 a1 k
  obtain ⟨ih0, ih1, ih2, ih3⟩ := gcr_Read.mono_l k
  unfold gcr_Read.f
  repeat' first
      | (with_reducible exact ih0 _ _ _ _)
      | (with_reducible exact ih1 _ _ _ _)
      | (with_reducible exact ih2 _ _ _ _ _ _)
      | (with_reducible exact ih3 _ _ _ _ _ _ _ _ _ _)
      | (with_reducible exact flux_Cells.mono _ _ _ _)
      | (with_reducible exact slices_Index_int_int.mono _ _ _)
      | (with_reducible exact LeO.refl _)
      | (with_reducible exact LeO.none _)
      | (with_reducible refine LeO.ite ?_ ?_)
      | (with_reducible refine LeO.bind ?_ (fun _ => ?_))
      | exact ih0 _ _ _ _
      | exact ih1 _ _ _ _
      | exact ih2 _ _ _ _ _ _
      | exact ih3 _ _ _ _ _ _ _ _ _ _
      | exact flux_Cells.mono _ _ _ _
      | exact slices_Index_int_int.mono _ _ _
      | exact LeO.none _
      | refine LeO.ite ?_ ?_
      | refine LeO.bind ?_ (fun _ => ?_)
set_option maxHeartbeats 8000000 in
set_option maxRecDepth 100000 in
theorem gcr_Read.calls (k : Nat) (A0 : Option Addr) (c0 : Nat) (l0 : List Int) (a1 : Int) (r1 : List Int) (r2 : Int) (w : World) (hr0 : Kd.C (Kd.int .i64) w A0 l0.length l0) (hc0 : l0.length ≤ c0) (h : gcr_Read.f k l0 a1 = some (r1, r2)) :
    Calls Try.prog 7 #[.slice A0 l0.length c0, .int .i64 a1] w fun e w' => ∃ v0_ : Value, e = .returned (.tuple #[v0_, .int .i64 r2]) ∧ Kd.R (Kd.int .u8) 5 w' w.heap.size (fun _ => True) v0_ r1 ∧ Below w.heap.size w w' := by
  have HR0 := Aside0.mk hr0
  have HC0 := Aside0.mk hc0
  clear hr0 hc0
  have HB := Aside0.mk (Below.refl w.heap.size w)
  have H : ((flux_Cells.f k l0 a1 3).bind fun bt135 => (if bt135.2 = 0 then (gcr_Read.l0 k ([] : List Int) bt135.1 (bt135.1.length : Int) 0) else (some (([] : List Int), bt135.2)))) = some (r1, r2) := h
  clear h
  replace H := Option.bind_eq_some_iff.mp H
  obtain ⟨⟨t135, t136⟩, A30, H⟩ := H
  replace H : (if t136 = 0 then (gcr_Read.l0 k ([] : List Int) t135 (t135.length : Int) 0) else (some (([] : List Int), t136))) = some (r1, r2) := H
  have A3 := Aside0.mk A30
  clear A30
  by_cases c4 : t136 = 0
  · rw [if_pos c4] at H
    have c4b0 : (t136 == 0) = true := beq_iff_eq.mpr c4
    have c4b1 : (t136 != 0) = false := bne_eq_false_iff_eq.mpr c4
    clear c4
    have H' := Aside0.mk H
    clear H
    go_enter Try.func7, Try.ntmps7
    go_wp2_with (first | ((with_reducible refine gate_callee (f := 23) rfl ?_); refine goesL_ (some 23) rfl rfl Try.func23 (by kernel_rfl) rfl #[.slice A0 l0.length c0, .int .i64 a1, .int .i64 3] rfl (by (try simp only [List.map_toArray, List.map_cons, List.map_nil]); first | done | rfl | (simp only [List.length_drop, List.length_take]; rfl)) ?_; (with_reducible refine (flux_Cells.calls k _ _ l0 a1 3 t135 t136 _ ?side1 ?side2 A3.out).mono ?_); (case side1 => repeat (first | exact HR0.out | (with_reducible refine Kd.C_alloc ?_ _) | (with_reducible refine Kd.C_drewN ?_ _) | (with_reducible refine Kd.C_drew ?_))); (case side2 => exact HC0.out); rintro e w5 ⟨v137, rfl, ho0, hb⟩; refine ⟨_, rfl, ?_⟩; have n0_ := Aside0.mk (Kd.R_lower ho0 (below_size (by repeat (first | (with_reducible first | exact HB.out | apply below_alloc | apply pw_below_drewN | apply below_drew1) | exact HB.out)))); have n1_ := Aside0.mk (below_step (by repeat (first | (with_reducible first | exact HB.out | apply below_alloc | apply pw_below_drewN | apply below_drew1) | exact HB.out)) hb); clear HB; have HO138 := n0_; have HB := n1_; clear n0_ n1_; (try clear hb); (try clear hb2); (try clear hk); (try clear hi); (try clear ho0); obtain ⟨Ao6, co6, eo6⟩ := Kd.R_slice HO138.out; subst eo6))
    go_loopg [8, 31] k (fun kq v8 v31 w' => ∃ (x8_1 : List Int) (x29_1 : List Int) (x31_1 : Int), v31 = .int .i64 x31_1 ∧ Aside0 (gcr_Read.l0 kq x8_1 x29_1 (t135.length : Int) x31_1 = some (r1, r2)) ∧ Aside0 (kq ≤ k) ∧ Aside0 (Kd.R (Kd.int .i64) 3 w' w.heap.size (fun k_ => some k_ ≠ ((.slice Ao6 t135.length co6) : Value).ownBlock) v8 x8_1) ∧ Aside0 (Kd.R (Kd.int .i64) 3 w' w.heap.size (fun k_ => some k_ ≠ (v8 : Value).ownBlock) (.slice Ao6 t135.length co6) x29_1) ∧ Aside0 (Below w.heap.size w w'))
    case atStart => exact ⟨(([] : List Int)), (t135), (0), (by first | rfl | (simp; done) | (simp [*]; done)), H', ⟨Nat.le_refl _⟩, ⟨by first | exact Kd.R_nil _ _ _ _ _ | exact Kd.N_nil _ _ _ _ _ | exact Kd.V_nil _ _ _ _ _ | exact Kd.Q_nil _ _ _ _ _ | exact Kd.S_nil _ _ _ _ _⟩, ⟨by (with_reducible repeat (first | apply Kd.R_alloc | apply Kd.R_drewN | apply Kd.R_drew)); exact Kd.R_mono HO138.out (fun _ hk => (by simp [Value.ownBlock]))⟩, ⟨by repeat (first | (with_reducible first | exact HB.out | apply below_alloc | apply pw_below_drewN | apply below_drew1) | exact HB.out)⟩⟩
    case round =>
      clear H'
      try clear c2
      try clear p2
      try clear c4
      try clear c4b0
      try clear c4b1
      obtain ⟨x8_1, x29_1, x31_1, rfl, HA, HK1, HO_8, HO_29, HB⟩ := hrel
      have hl29_1 := (Kd.R_reads' HO_29.out).1
      rw [hl29_1] at HO_29
      (try simp only [hl29_1])
      (try simp only [hl29_1] at HO_8)
      cases gk with
      | zero => exact absurd HA.out (by simp [gcr_Read.l0])
      | succ k1 =>
        have H := HA.out
        clear HA
        simp only [gcr_Read.l0] at H
        by_cases c7 : x31_1 < (t135.length : Int)
        · rw [if_pos c7] at H
          have c7b0 : decide (x31_1 < (t135.length : Int)) = true := decide_eq_true c7
          (try simp only [hl29_1] at c7b0)
          clear c7
          by_cases c8 : 0 ≤ x31_1
          · rw [if_pos c8] at H
            have c8b0 : decide (0 ≤ x31_1) = true := decide_eq_true c8
            clear c8
            by_cases c9 : x31_1 < (x29_1.length : Int)
            · rw [if_pos c9] at H
              have c9b0 : decide (x31_1 < (x29_1.length : Int)) = true := decide_eq_true c9
              (try simp only [hl29_1] at c9b0)
              clear c9
              by_cases c10 : 0 ≤ (rd x29_1 x31_1)
              · rw [if_pos c10] at H
                have c10b0 := eq_true c10
                have c10b1 : decide (0 ≤ (rd x29_1 x31_1)) = true := decide_eq_true c10
                clear c10
                by_cases c11 : x8_1.length + (rd x29_1 x31_1 : Int).toNat < 17592186044416
                · rw [if_pos c11] at H
                  have LMc11 := Aside0.mk c11
                  clear c11
                  obtain ⟨y140, hy140⟩ : ∃ y_ : List Int, y_ = (x8_1 ++ List.replicate (rd x29_1 x31_1 : Int).toNat 0) := ⟨_, rfl⟩
                  replace H : (if 0 ≤ (wrap64 ((y140.length : Int) - 1)) then (if (wrap64 ((y140.length : Int) - 1)) < (y140.length : Int) then (gcr_Read.l0 k1 (y140.set ((wrap64 ((y140.length : Int) - 1)) : Int).toNat 1) x29_1 (t135.length : Int) (wrap64 (x31_1 + 1))) else (none)) else (none)) = some (r1, r2) := by first | (rw [hy140]; with_reducible exact H) | (have H2_ := (Option.bind_some _ _).symm.trans H; rw [hy140]; with_reducible exact H2_) | (have H2_ := (Option.bind_some _ _).symm.trans H; with_reducible exact H2_) | with_reducible exact H | (rw [hy140]; exact H) | exact H
                  have Ny140 := Aside0.mk hy140
                  clear hy140
                  obtain ⟨ji12, hji12⟩ : ∃ j_ : Int, (wrap64 ((y140.length : Int) - 1)) = j_ := ⟨_, rfl⟩
                  replace H : (if 0 ≤ (ji12) then (if (ji12) < (y140.length : Int) then (gcr_Read.l0 k1 (y140.set ((ji12) : Int).toNat 1) x29_1 (t135.length : Int) (wrap64 (x31_1 + 1))) else (none)) else (none)) = some (r1, r2) := by first | (rw [hji12] at H; exact H) | (simp only [hji12] at H ⊢; exact H)
                  have hji12w : (IntKind.i64.wrap ((y140.length : Int) - 1)) = ji12 := (i64_w _).trans hji12
                  by_cases c13 : 0 ≤ (ji12)
                  · rw [if_pos c13] at H
                    have c13b0 : decide (0 ≤ (ji12)) = true := decide_eq_true c13
                    clear c13
                    by_cases c14 : (ji12) < (y140.length : Int)
                    · rw [if_pos c14] at H
                      have c14b0 : decide ((ji12) < (y140.length : Int)) = true := decide_eq_true c14
                      (try simp only [hl29_1] at c14b0)
                      clear c14
                      obtain ⟨y143, hy143⟩ : ∃ y_ : List Int, y_ = (y140.set ((ji12) : Int).toNat 1) := ⟨_, rfl⟩
                      replace H : (gcr_Read.l0 k1 y143 x29_1 (t135.length : Int) (wrap64 (x31_1 + 1))) = some (r1, r2) := by first | (rw [hy143]; with_reducible exact H) | (have H2_ := (Option.bind_some _ _).symm.trans H; rw [hy143]; with_reducible exact H2_) | (have H2_ := (Option.bind_some _ _).symm.trans H; with_reducible exact H2_) | with_reducible exact H | (rw [hy143]; exact H) | exact H
                      have Ny143 := Aside0.mk hy143
                      clear hy143
                      have H' := Aside0.mk H
                      clear H
                      have p139 : 0 ≤ (x31_1 : Int) := of_decide_eq_true (by first | (with_reducible assumption) | assumption)
                      have q139 : x31_1 < (x29_1.length : Int) := of_decide_eq_true (by first | (with_reducible assumption) | assumption)
                      obtain ⟨ad139, e139, hx139_0⟩ := Kd.at_int (Kd.R_reads' HO_29.out).2.2 x31_1 p139 q139
                      cases e139
                      replace p139 := eq_true p139
                      replace q139 := eq_true q139
                      go_wp2_with (first | (at_builtin; refine Kd.R_append_zeros (Kd.int .i64) (w0 := w) w.heap.size rfl (.tmp 35) (.tmp 36) 23 3 3 (.int .i64 0) 8 rfl Try.underlying23 Try.underlying3 info3 rfl (by decide) (by omega) u8 x8_1 0 (rd x29_1 x31_1 : Int) (fun k_ => some k_ ≠ (.slice (some ad139) x29_1.length co6 : Value).ownBlock) rfl rfl rfl ?aF ?aO (of_decide_eq_true (by first | (with_reducible assumption) | assumption)) ?aB ?aS ?aL ?_; (case aB => exact (by repeat (first | (with_reducible first | exact HB.out | apply below_alloc | apply pw_below_drewN | apply below_drew1) | exact HB.out))); (case aF => exact (fun k_ hk => Kd.fresh' (Kd.R_lt (by (with_reducible repeat (first | apply Kd.R_alloc | apply Kd.R_drewN | apply Kd.R_drew)); exact HO_29.out)) k_ hk)); (case aO => exact (by (with_reducible repeat (first | apply Kd.R_alloc | apply Kd.R_drewN | apply Kd.R_drew)); exact HO_8.out)); (case aS => exact (below_size (by repeat (first | (with_reducible first | exact HB.out | apply below_alloc | apply pw_below_drewN | apply below_drew1) | exact HB.out)))); (case aL => have := LMc11.out; omega); intro v141 w16 ho hb hg hat; rw [← Ny140.out] at ho; have n0_ := Aside0.mk (Kd.R_after (ok := (fun _ => True)) (by (with_reducible repeat (first | apply Kd.R_alloc | apply Kd.R_drewN | apply Kd.R_drew)); exact Kd.R_mono HO_29.out (fun _ hk => ⟨trivial, hk⟩)) hg hat); have n1_ := Aside0.mk (hb); have n2_ := Aside0.mk (ho); clear HO_29; clear HB; clear HO_8; have HO_29 := n0_; have HB := n1_; have HO142 := n2_; clear n0_ n1_ n2_; clear ho hb hg hat; obtain ⟨Ao17, co17, eo17⟩ := Kd.R_slice HO142.out; subst eo17; have p15 : 0 ≤ ((ji12) : Int) := of_decide_eq_true (by first | (with_reducible assumption) | assumption); have q15 : ((ji12) : Int) < ((y140.length : Int) : Int) := of_decide_eq_true (by first | (with_reducible assumption) | assumption); obtain ⟨go15, co15, eo15, gb15, gl15, cl15, HG15⟩ := Kd.R_form HO142.out (by omega); (first | cases eo15 | (injection eo15 with ea_ en_ ec_; (first | subst ea_ | (injection ea_ with ea_; subst ea_)); subst ec_; clear en_)); have GB15 := Aside0.mk gb15; have GG15 := Aside0.mk HG15; clear gb15 gl15 HG15; obtain ⟨hx15_0, hf15_0⟩ := Kd.R_celln 0 HO142.out ((ji12) : Int) p15 q15; replace p15 := eq_true p15; replace q15 := eq_true q15; obtain ⟨hy18_, hz18_⟩ := Kd.R_celln 0 HO142.out ((ji12) : Int) (of_decide_eq_true (by first | (with_reducible assumption) | assumption)) (of_decide_eq_true (by first | (with_reducible assumption) | assumption)); have HP18 := Kd.R_putg HO142.out ((ji12) : Int) 1) | ((with_reducible refine gate_store (t := 3) (p := 42) rfl ?_); refine store_event (t := 3) (p := 42) (v := ?vo_w19) (w1 := (w16.setCell ⟨go15, ((ji12) : Int).toNat, none⟩ (.int .i64 1))) ?hg ?ho ?hn ?hr ?_; (case ho => rfl); (case hg => rfl); (case hn => rfl); (case hr => first | (go_simp; done) | (go_simp; rfl)); intro w19 hw; have hg : w16.grownBy w19 (some go15) := (by rw [hw]; exact HP18.2); have hp_ : Kd.R (Kd.int .i64) 3 w19 w.heap.size (fun k_ => some k_ ≠ (.slice (some ad139) x29_1.length co6 : Value).ownBlock) (.slice (some ⟨go15, 0, none⟩) y140.length co17) y143 := (by rw [hw, Ny143.out]; exact HP18.1); clear HP18; have n0_ := Aside0.mk (Kd.R_after (v := (.slice (some ⟨go15, 0, none⟩) y140.length co17)) (v1 := (.slice (some ⟨go15, 0, none⟩) y140.length co17)) (ok := (fun _ => True)) (by (with_reducible repeat (first | apply Kd.R_alloc | apply Kd.R_drewN | apply Kd.R_drew)); exact HO_29.out) hg (.inl rfl)); have n1_ := Aside0.mk (hp_); have n2_ := Aside0.mk ((by rw [hw]; exact below_set (HB.out) GB15.out : Below w.heap.size w w19)); clear HO_29; clear HO142; clear HB; have HO_29 := n0_; have HO142 := n1_; have HB := n2_; clear n0_ n1_ n2_; clear hg hw hp_))
                      (try simp only [← hl29_1])
                      go_roundg k1
                      case measure => have := HK1.out; omega
                      case rel => exact ⟨(y143), (x29_1), (wrap64 (x31_1 + 1)), (by first | rfl | (simp; done) | (simp [*]; done)), H', ⟨by have := HK1.out; omega⟩, ⟨by (try simp only [hl29_1]); (with_reducible repeat (first | apply Kd.R_alloc | apply Kd.R_drewN | apply Kd.R_drew)); exact HO142.out⟩, ⟨by (try simp only [hl29_1]); (with_reducible repeat (first | apply Kd.R_alloc | apply Kd.R_drewN | apply Kd.R_drew)); exact Kd.R_mono HO_29.out (fun _ hk => hk.2)⟩, ⟨by repeat (first | (with_reducible first | exact HB.out | apply below_alloc | apply pw_below_drewN | apply below_drew1) | exact HB.out)⟩⟩
                    · rw [if_neg c14] at H
                      exact absurd H (by simp)
                  · rw [if_neg c13] at H
                    exact absurd H (by simp)
                · rw [if_neg c11] at H
                  exact absurd H (by simp)
              · rw [if_neg c10] at H
                exact absurd H (by simp)
            · rw [if_neg c9] at H
              exact absurd H (by simp)
          · rw [if_neg c8] at H
            exact absurd H (by simp)
        · rw [if_neg c7] at H
          have c7b0 : decide (x31_1 < (t135.length : Int)) = false := decide_eq_false c7
          (try simp only [hl29_1] at c7b0)
          clear c7
          by_cases c20 : (x8_1.length : Int) = 0
          · rw [if_pos c20] at H
            have c20b0 : ((x8_1.length : Int) == 0) = true := beq_iff_eq.mpr c20
            (try simp only [hl29_1] at c20b0)
            have c20b1 : ((x8_1.length : Int) != 0) = false := bne_eq_false_iff_eq.mpr c20
            (try simp only [hl29_1] at c20b1)
            clear c20
            simp only [Option.some.injEq, Prod.mk.injEq] at H
            obtain ⟨rfl, rfl⟩ := H
            obtain ⟨Ao21, co21, eo21⟩ := Kd.R_slice HO_8.out
            subst eo21
            go_wp2
            go_ret2
            exact ⟨_, by first | rfl | (simp [errW_none, errW_some] <;> rfl) | (simp [*, errW_none, errW_some] <;> rfl), by first | exact Kd.R_nil _ _ _ _ _ | exact Kd.N_nil _ _ _ _ _ | exact Kd.V_nil _ _ _ _ _ | exact Kd.Q_nil _ _ _ _ _ | exact Kd.S_nil _ _ _ _ _, by repeat (first | (with_reducible first | exact HB.out | apply below_alloc | apply pw_below_drewN | apply below_drew1) | exact HB.out)⟩
          · rw [if_neg c20] at H
            have c20b0 : ((x8_1.length : Int) == 0) = false := beq_eq_false_iff_ne.mpr c20
            (try simp only [hl29_1] at c20b0)
            have c20b1 : ((x8_1.length : Int) != 0) = true := bne_iff_ne.mpr c20
            (try simp only [hl29_1] at c20b1)
            have c20b2 : ¬ (x8_1 = []) := fun h_ => c20 (by rw [h_]; rfl)
            obtain ⟨ji22, hji22⟩ : ∃ j_ : Int, (wrap64 ((x8_1.length : Int) - 1)) = j_ := ⟨_, rfl⟩
            replace H : (if 0 ≤ (ji22) then (if (ji22) ≤ (x8_1.length : Int) then ((some (x8_1.take ((ji22) : Int).toNat : List Int)).bind fun y144 => (if ((y144.length : Int) % 10) = 0 then (if (y144.length : Int) > 20000 then (some (([] : List Int), 2)) else ((gcr_Codes.f).bind fun t147 => (gcr_Read.l1 k1 y144 ([] : List Int) t147 0))) else (some (([] : List Int), 13)))) else (none)) else (none)) = some (r1, r2) := by first | (rw [hji22] at H; exact H) | (simp only [hji22] at H ⊢; exact H)
            have hji22w : (IntKind.i64.wrap ((x8_1.length : Int) - 1)) = ji22 := (i64_w _).trans hji22
            by_cases c23 : 0 ≤ (ji22)
            · rw [if_pos c23] at H
              have c23b0 := eq_true c23
              have c23b1 : decide (0 ≤ (ji22)) = true := decide_eq_true c23
              clear c23
              by_cases c24 : (ji22) ≤ (x8_1.length : Int)
              · rw [if_pos c24] at H
                have c24b0 := eq_true c24
                have c24b1 : decide ((ji22) ≤ (x8_1.length : Int)) = true := decide_eq_true c24
                (try simp only [hl29_1] at c24b1)
                clear c24
                obtain ⟨y144, hy144⟩ : ∃ y_ : List Int, y_ = (x8_1.take ((ji22) : Int).toNat) := ⟨_, rfl⟩
                replace H : (if ((y144.length : Int) % 10) = 0 then (if (y144.length : Int) > 20000 then (some (([] : List Int), 2)) else ((gcr_Codes.f).bind fun t147 => (gcr_Read.l1 k1 y144 ([] : List Int) t147 0))) else (some (([] : List Int), 13))) = some (r1, r2) := by first | (rw [hy144]; with_reducible exact H) | (have H2_ := (Option.bind_some _ _).symm.trans H; rw [hy144]; with_reducible exact H2_) | (have H2_ := (Option.bind_some _ _).symm.trans H; with_reducible exact H2_) | with_reducible exact H | (rw [hy144]; exact H) | exact H
                have Ny144 := Aside0.mk hy144
                clear hy144
                by_cases c25 : ((y144.length : Int) % 10) = 0
                · rw [if_pos c25] at H
                  have c25b0 : (((y144.length : Int) % 10) == 0) = true := beq_iff_eq.mpr c25
                  (try simp only [hl29_1] at c25b0)
                  have c25b1 : (((y144.length : Int) % 10) != 0) = false := bne_eq_false_iff_eq.mpr c25
                  (try simp only [hl29_1] at c25b1)
                  clear c25
                  by_cases c26 : (y144.length : Int) > 20000
                  · rw [if_pos c26] at H
                    have c26b0 : decide (20000 < (y144.length : Int)) = true := decide_eq_true c26
                    (try simp only [hl29_1] at c26b0)
                    have c26b1 : decide (20000 < y144.length) = true := decide_eq_true (by omega)
                    (try simp only [hl29_1] at c26b1)
                    clear c26
                    simp only [Option.some.injEq, Prod.mk.injEq] at H
                    obtain ⟨rfl, rfl⟩ := H
                    obtain ⟨Ao27, co27, eo27⟩ := Kd.R_slice HO_8.out
                    subst eo27
                    have q28 : ((ji22) : Int) ≤ ((x8_1.length : Int) : Int) := of_decide_eq_true (by first | (with_reducible assumption) | assumption)
                    obtain ⟨i028, hi028, _, hsz28, _⟩ := info_parts info3
                    have hcut28 := cut_to (P := Try.prog) 23 3 .i64 Try.underlying23 hi028 Ao27 x8_1.length co27 (ji22) (of_decide_eq_true (by first | (with_reducible assumption) | assumption)) q28 (Kd.R_reads' HO_8.out).2.1
                    have hr28 := Kd.R_take (m := ((ji22) : Int).toNat) HO_8.out (by omega)
                    have hy28 : y144.length = ((ji22) : Int).toNat := (by rw [Ny144.out, List.length_take]; omega)
                    rw [← Ny144.out] at hr28
                    rw [← hy28] at hr28 hcut28
                    clear hy28 hi028 hsz28 HO_8
                    have HO146 := Aside0.mk hr28
                    clear hr28
                    replace q28 := eq_true q28
                    go_wp2
                    go_ret2
                    exact ⟨_, by first | rfl | (simp [errW_none, errW_some] <;> rfl) | (simp only [← hji22]; first | rfl | (simp [errW_none, errW_some] <;> rfl)) | (simp [*, errW_none, errW_some] <;> rfl), by first | exact Kd.R_nil _ _ _ _ _ | exact Kd.N_nil _ _ _ _ _ | exact Kd.V_nil _ _ _ _ _ | exact Kd.Q_nil _ _ _ _ _ | exact Kd.S_nil _ _ _ _ _, by repeat (first | (with_reducible first | exact HB.out | apply below_alloc | apply pw_below_drewN | apply below_drew1) | exact HB.out)⟩
                  · rw [if_neg c26] at H
                    have c26b0 : decide (20000 < (y144.length : Int)) = false := decide_eq_false c26
                    (try simp only [hl29_1] at c26b0)
                    have c26b1 : decide (20000 < y144.length) = false := decide_eq_false (by omega)
                    (try simp only [hl29_1] at c26b1)
                    clear c26
                    replace H := Option.bind_eq_some_iff.mp H
                    obtain ⟨t147, A290, H⟩ := H
                    replace H : (gcr_Read.l1 k1 y144 ([] : List Int) t147 0) = some (r1, r2) := H
                    have A29 := Aside0.mk A290
                    clear A290
                    have H' := Aside0.mk H
                    clear H
                    obtain ⟨Ao30, co30, eo30⟩ := Kd.R_slice HO_8.out
                    subst eo30
                    have q31 : ((ji22) : Int) ≤ ((x8_1.length : Int) : Int) := of_decide_eq_true (by first | (with_reducible assumption) | assumption)
                    obtain ⟨i031, hi031, _, hsz31, _⟩ := info_parts info3
                    have hcut31 := cut_to (P := Try.prog) 23 3 .i64 Try.underlying23 hi031 Ao30 x8_1.length co30 (ji22) (of_decide_eq_true (by first | (with_reducible assumption) | assumption)) q31 (Kd.R_reads' HO_8.out).2.1
                    have hr31 := Kd.R_take (m := ((ji22) : Int).toNat) HO_8.out (by omega)
                    have hy31 : y144.length = ((ji22) : Int).toNat := (by rw [Ny144.out, List.length_take]; omega)
                    rw [← Ny144.out] at hr31
                    rw [← hy31] at hr31 hcut31
                    clear hy31 hi031 hsz31 HO_8
                    have HO146 := Aside0.mk hr31
                    clear hr31
                    replace q31 := eq_true q31
                    go_wp2_with (first | ((with_reducible refine gate_callee (f := 12) rfl ?_); refine goesL_ (some 59) rfl rfl Try.func12 (by kernel_rfl) rfl #[] rfl (by (try simp only [List.map_toArray, List.map_cons, List.map_nil]); first | done | rfl | (simp only [List.length_drop, List.length_take]; rfl)) ?_; (with_reducible refine (gcr_Codes.calls  t147 _ A29.out).mono ?_); rintro e w32 ⟨v148, rfl, ho0, hb⟩; refine ⟨_, rfl, ?_⟩; have n0_ := Aside0.mk (Kd.R_elder' (by (with_reducible repeat (first | apply Kd.R_alloc | apply Kd.R_drewN | apply Kd.R_drew)); exact HO146.out) (Kd.R_base ho0) hb); have n1_ := Aside0.mk (Kd.R_elder' (by (with_reducible repeat (first | apply Kd.R_alloc | apply Kd.R_drewN | apply Kd.R_drew)); exact HO_29.out) (Kd.R_base ho0) hb); have n2_ := Aside0.mk (Kd.R_lower (Kd.R_new' (Kd.R_new' ho0 (Kd.R_lt (by (with_reducible repeat (first | apply Kd.R_alloc | apply Kd.R_drewN | apply Kd.R_drew)); exact HO146.out))) (Kd.R_lt (by (with_reducible repeat (first | apply Kd.R_alloc | apply Kd.R_drewN | apply Kd.R_drew)); exact HO_29.out))) (below_size (by repeat (first | (with_reducible first | exact HB.out | apply below_alloc | apply pw_below_drewN | apply below_drew1) | exact HB.out)))); have n3_ := Aside0.mk (below_step (by repeat (first | (with_reducible first | exact HB.out | apply below_alloc | apply pw_below_drewN | apply below_drew1) | exact HB.out)) hb); clear HO146; clear HO_29; clear HB; have HO146 := n0_; have HO_29 := n1_; have HO149 := n2_; have HB := n3_; clear n0_ n1_ n2_ n3_; (try clear hb); (try clear hb2); (try clear hk); (try clear hi); (try clear ho0)))
                    go_loopg [11, 13] k1 (fun kq v11 v13 w' => ∃ (x11_2 : List Int) (x13_2 : Int), v13 = .int .i64 x13_2 ∧ Aside0 (gcr_Read.l1 kq y144 x11_2 t147 x13_2 = some (r1, r2)) ∧ Aside0 (kq ≤ k1) ∧ Aside0 (Kd.R (Kd.int .i64) 3 w' w.heap.size (fun k_ => some k_ ≠ (v148 : Value).ownBlock) (.slice Ao30 y144.length co30) y144) ∧ Aside0 (Kd.R (Kd.int .u8) 5 w' w.heap.size (fun _ => True) v11 x11_2) ∧ Aside0 (Kd.R (Kd.int .i64) 3 w' w.heap.size (fun k_ => some k_ ≠ ((.slice Ao30 y144.length co30) : Value).ownBlock) v148 t147) ∧ Aside0 (Below w.heap.size w w'))
                    case atStart => exact ⟨(([] : List Int)), (0), (by first | rfl | (simp; done) | (simp [*]; done)), H', ⟨Nat.le_refl _⟩, ⟨by (try simp only [hl29_1]); (with_reducible repeat (first | apply Kd.R_alloc | apply Kd.R_drewN | apply Kd.R_drew)); exact Kd.R_mono HO146.out (fun _ hk => hk.2)⟩, ⟨by (try simp only [hl29_1]); first | exact Kd.R_nil _ _ _ _ _ | exact Kd.N_nil _ _ _ _ _ | exact Kd.V_nil _ _ _ _ _ | exact Kd.Q_nil _ _ _ _ _ | exact Kd.S_nil _ _ _ _ _⟩, ⟨by (try simp only [hl29_1]); (with_reducible repeat (first | apply Kd.R_alloc | apply Kd.R_drewN | apply Kd.R_drew)); exact Kd.R_mono HO149.out (fun _ hk => hk.1.2)⟩, ⟨by repeat (first | (with_reducible first | exact HB.out | apply below_alloc | apply pw_below_drewN | apply below_drew1) | exact HB.out)⟩⟩
                    case round =>
                      clear H'
                      try clear c1
                      try clear p1
                      try clear q1
                      try clear hx1
                      try clear c2
                      try clear p2
                      try clear q2
                      try clear q3
                      try clear c4
                      try clear c4b0
                      try clear c4b1
                      try clear p6
                      try clear c7
                      try clear c7b0
                      try clear c8
                      try clear c8b0
                      try clear c9
                      try clear c9b0
                      try clear c10
                      try clear c10b0
                      try clear c10b1
                      try clear c11
                      try clear c12
                      try clear c13
                      try clear c13b0
                      try clear p13
                      try clear q13
                      try clear hx13
                      try clear c14
                      try clear c14b0
                      try clear p15
                      try clear q15
                      try clear hx15
                      try clear hf15
                      try clear c20
                      try clear c20b0
                      try clear c20b1
                      try clear c20b2
                      try clear c23
                      try clear c23b0
                      try clear c23b1
                      try clear c24
                      try clear c24b0
                      try clear c24b1
                      try clear c25
                      try clear c25b0
                      try clear c25b1
                      try clear c26
                      try clear c26b0
                      try clear c26b1
                      try clear q28
                      try clear q31
                      try clear hx139_0
                      try clear hx15_0
                      try clear p139
                      try clear p15
                      try clear p2
                      try clear q139
                      try clear q15
                      try clear q28
                      try clear q31
                      obtain ⟨x11_2, x13_2, rfl, HA, HK2, HO_8, HO_11, HO_12, HB⟩ := hrel
                      cases gk with
                      | zero => exact absurd HA.out (by simp [gcr_Read.l1])
                      | succ k2 =>
                        have H := HA.out
                        clear HA
                        simp only [gcr_Read.l1] at H
                        by_cases c33 : x13_2 < (y144.length : Int)
                        · rw [if_pos c33] at H
                          have c33b0 : decide (x13_2 < (y144.length : Int)) = true := decide_eq_true c33
                          (try simp only [hl29_1] at c33b0)
                          clear c33
                          have H' := Aside0.mk H
                          clear H
                          go_wp2
                          go_loopg [14, 15] k2 (fun kq v14 v15 w' => ∃ (x14_3 : Int) (x15_3 : Int), v14 = .int .i64 x14_3 ∧ v15 = .int .i64 x15_3 ∧ Aside0 (gcr_Read.l2 kq y144 x11_2 t147 x13_2 x14_3 x15_3 = some (r1, r2)) ∧ Aside0 (kq ≤ k2) ∧ Aside0 (Kd.R (Kd.int .i64) 3 w' w.heap.size (fun k_ => some k_ ≠ (v148 : Value).ownBlock) (.slice Ao30 y144.length co30) y144) ∧ Aside0 (Kd.R (Kd.int .u8) 5 w' w.heap.size (fun _ => True) u11 x11_2) ∧ Aside0 (Kd.R (Kd.int .i64) 3 w' w.heap.size (fun k_ => some k_ ≠ ((.slice Ao30 y144.length co30) : Value).ownBlock) v148 t147) ∧ Aside0 (Below w.heap.size w w'))
                          case atStart => exact ⟨(0), (x13_2), (by first | rfl | (simp; done) | (simp [*]; done)), (by first | rfl | (simp; done) | (simp [*]; done)), H', ⟨Nat.le_refl _⟩, ⟨by (try simp only [hl29_1]); (with_reducible repeat (first | apply Kd.R_alloc | apply Kd.R_drewN | apply Kd.R_drew)); exact HO_8.out⟩, ⟨by (try simp only [hl29_1]); (with_reducible repeat (first | apply Kd.R_alloc | apply Kd.R_drewN | apply Kd.R_drew)); exact HO_11.out⟩, ⟨by (try simp only [hl29_1]); (with_reducible repeat (first | apply Kd.R_alloc | apply Kd.R_drewN | apply Kd.R_drew)); exact HO_12.out⟩, ⟨by repeat (first | (with_reducible first | exact HB.out | apply below_alloc | apply pw_below_drewN | apply below_drew1) | exact HB.out)⟩⟩
                          case round =>
                            clear H'
                            try clear c1
                            try clear p1
                            try clear q1
                            try clear hx1
                            try clear c2
                            try clear p2
                            try clear q2
                            try clear c3
                            try clear q3
                            try clear c4
                            try clear c4b0
                            try clear c4b1
                            try clear p6
                            try clear c7
                            try clear c7b0
                            try clear c8
                            try clear c8b0
                            try clear c9
                            try clear c9b0
                            try clear c10
                            try clear c10b0
                            try clear c10b1
                            try clear c11
                            try clear c12
                            try clear c13
                            try clear c13b0
                            try clear p13
                            try clear q13
                            try clear hx13
                            try clear c14
                            try clear c14b0
                            try clear p15
                            try clear q15
                            try clear hx15
                            try clear hf15
                            try clear c20
                            try clear c20b0
                            try clear c20b1
                            try clear c20b2
                            try clear c23
                            try clear c23b0
                            try clear c23b1
                            try clear c24
                            try clear c24b0
                            try clear c24b1
                            try clear c25
                            try clear c25b0
                            try clear c25b1
                            try clear c26
                            try clear c26b0
                            try clear c26b1
                            try clear q28
                            try clear q31
                            try clear c33
                            try clear c33b0
                            try clear hx139_0
                            try clear hx15_0
                            try clear p1
                            try clear p13
                            try clear p139
                            try clear p15
                            try clear p2
                            try clear p6
                            try clear q1
                            try clear q13
                            try clear q139
                            try clear q15
                            try clear q2
                            try clear q28
                            try clear q3
                            try clear q31
                            obtain ⟨x14_3, x15_3, rfl, rfl, HA, HK3, HO_8, HO_11, HO_12, HB⟩ := hrel
                            cases gk with
                            | zero => exact absurd HA.out (by simp [gcr_Read.l2])
                            | succ k3 =>
                              have H := HA.out
                              clear HA
                              simp only [gcr_Read.l2] at H
                              by_cases c34 : x15_3 < (wrap64 (x13_2 + 10))
                              · rw [if_pos c34] at H
                                have c34b0 : decide (x15_3 < (wrap64 (x13_2 + 10))) = true := decide_eq_true c34
                                clear c34
                                by_cases c35 : 0 ≤ x15_3
                                · rw [if_pos c35] at H
                                  have c35b0 := eq_true c35
                                  have c35b1 : decide (0 ≤ x15_3) = true := decide_eq_true c35
                                  clear c35
                                  by_cases c36 : x15_3 ≤ (wrap64 (x15_3 + 5))
                                  · rw [if_pos c36] at H
                                    have c36b0 := eq_true c36
                                    have c36b1 : decide (x15_3 ≤ (wrap64 (x15_3 + 5))) = true := decide_eq_true c36
                                    by_cases c37 : (wrap64 (x15_3 + 5)) ≤ (y144.length : Int)
                                    · rw [if_pos c37] at H
                                      have c37b0 := eq_true c37
                                      have c37b1 : decide ((wrap64 (x15_3 + 5)) ≤ (y144.length : Int)) = true := decide_eq_true c37
                                      (try simp only [hl29_1] at c37b1)
                                      obtain ⟨y153, hy153⟩ : ∃ y_ : List Int, y_ = ((y144.take ((wrap64 (x15_3 + 5)) : Int).toNat).drop (x15_3 : Int).toNat) := ⟨_, rfl⟩
                                      replace H : (gcr_Read.l3 k3 y144 x11_2 t147 x13_2 x14_3 x15_3 0 y153 (y153.length : Int) 0) = some (r1, r2) := by first | (rw [hy153]; with_reducible exact H) | (have H2_ := (Option.bind_some _ _).symm.trans H; rw [hy153]; with_reducible exact H2_) | (have H2_ := (Option.bind_some _ _).symm.trans H; with_reducible exact H2_) | with_reducible exact H | (rw [hy153]; exact H) | exact H
                                      have Ny153 := Aside0.mk hy153
                                      clear hy153
                                      have H' := Aside0.mk H
                                      clear H
                                      have q38 : ((wrap64 (x15_3 + 5)) : Int) ≤ ((y144.length : Int) : Int) := of_decide_eq_true (by first | (with_reducible assumption) | assumption)
                                      obtain ⟨i038, hi038, _, hsz38, _⟩ := info_parts info3
                                      have hroom38 : y144.length ≤ co30 := (Kd.R_reads' HO_8.out).2.1
                                      have hC38 : Kd.C (Kd.int .i64) _ Ao30 y144.length y144 := (Kd.R_reads' HO_8.out).2.2
                                      have ql38 : (x15_3 : Int) ≤ ((wrap64 (x15_3 + 5)) : Int) := of_decide_eq_true (by first | (with_reducible assumption) | assumption)
                                      have q038 : (0 : Int) ≤ (x15_3 : Int) := of_decide_eq_true (by first | (with_reducible assumption) | assumption)
                                      have hcut38 := cut_mid (P := Try.prog) 23 3 .i64 .i64 Try.underlying23 hi038 1 hsz38 Ao30 y144.length co30 x15_3 (wrap64 (x15_3 + 5)) q038 ql38 q38 hroom38
                                      have hr38 := Kd.C_mid (lo := (x15_3 : Int).toNat) (hi := ((wrap64 (x15_3 + 5)) : Int).toNat) (c := co30) hC38 (by omega) (by omega) hroom38
                                      obtain ⟨A38, hA38⟩ : ∃ A1, A1 = (if co30 = (x15_3 : Int).toNat then Ao30 else (Ao30 : Option Addr).map (·.add ((x15_3 : Int).toNat * 1))) := ⟨_, rfl⟩
                                      obtain ⟨c38, hc38⟩ : ∃ c1, c1 = co30 - (x15_3 : Int).toNat := ⟨_, rfl⟩
                                      have hy38 : y153.length = ((wrap64 (x15_3 + 5)) : Int).toNat - (x15_3 : Int).toNat := (by rw [Ny153.out, List.length_drop, List.length_take] <;> omega)
                                      rw [show ((y144).take ((wrap64 (x15_3 + 5)) : Int).toNat).drop (x15_3 : Int).toNat = y153 from Ny153.out.symm] at hr38
                                      replace hr38 : Kd.C (Kd.int .i64) _ A38 y153.length y153 := (by rw [hA38]; exact hr38)
                                      rw [← hy38, ← hA38, ← hc38] at hcut38
                                      have HR156 := Aside0.mk hr38
                                      have HC156 := Aside0.mk (show y153.length ≤ c38 from by rw [hy38, hc38]; exact Nat.sub_le_sub_right (Nat.le_trans (by omega) hroom38) _)
                                      clear hr38 hC38 hroom38 hi038 hsz38 hc38
                                      have KY38 := Aside0.mk hy38
                                      have KA38 := Aside0.mk hA38
                                      clear hy38 hA38
                                      have KL38 := Aside0.mk (show ((wrap64 (x15_3 + 5)) : Int).toNat ≤ y144.length from by omega)
                                      have KM38 := Aside0.mk (show (x15_3 : Int).toNat ≤ ((wrap64 (x15_3 + 5)) : Int).toNat from by omega)
                                      replace q38 := eq_true q38
                                      go_wp2
                                      go_loopg [16, 79] k3 (fun kq v16 v79 w' => ∃ (x16_4 : Int) (x79_4 : Int), v16 = .int .i64 x16_4 ∧ v79 = .int .i64 x79_4 ∧ Aside0 (gcr_Read.l3 kq y144 x11_2 t147 x13_2 x14_3 x15_3 x16_4 y153 (y153.length : Int) x79_4 = some (r1, r2)) ∧ Aside0 (kq ≤ k3) ∧ Aside0 (Kd.R (Kd.int .i64) 3 w' w.heap.size (fun k_ => some k_ ≠ (v148 : Value).ownBlock) (.slice Ao30 y144.length co30) y144) ∧ Aside0 (Kd.R (Kd.int .u8) 5 w' w.heap.size (fun _ => True) u11 x11_2) ∧ Aside0 (Kd.R (Kd.int .i64) 3 w' w.heap.size (fun k_ => some k_ ≠ ((.slice Ao30 y144.length co30) : Value).ownBlock) v148 t147) ∧ Aside0 (Kd.C (Kd.int .i64) w' A38 y153.length y153) ∧ Aside0 (Below w.heap.size w w'))
                                      case atStart => exact ⟨(0), (0), (by first | rfl | (simp; done) | (simp [*]; done)), (by first | rfl | (simp; done) | (simp [*]; done)), H', ⟨Nat.le_refl _⟩, ⟨by (try simp only [hl29_1]); (with_reducible repeat (first | apply Kd.R_alloc | apply Kd.R_drewN | apply Kd.R_drew)); exact HO_8.out⟩, ⟨by (try simp only [hl29_1]); (with_reducible repeat (first | apply Kd.R_alloc | apply Kd.R_drewN | apply Kd.R_drew)); exact HO_11.out⟩, ⟨by (try simp only [hl29_1]); (with_reducible repeat (first | apply Kd.R_alloc | apply Kd.R_drewN | apply Kd.R_drew)); exact HO_12.out⟩, ⟨by repeat (first | (with_reducible exact HR156.out) | (with_reducible refine Kd.C_alloc ?_ _) | (with_reducible refine Kd.C_drewN ?_ _) | (with_reducible refine Kd.C_drew ?_) | exact HR156.out)⟩, ⟨by repeat (first | (with_reducible first | exact HB.out | apply below_alloc | apply pw_below_drewN | apply below_drew1) | exact HB.out)⟩⟩
                                      case round =>
                                        clear H'
                                        try clear c1
                                        try clear p1
                                        try clear q1
                                        try clear hx1
                                        try clear c2
                                        try clear p2
                                        try clear q2
                                        try clear c3
                                        try clear q3
                                        try clear c4
                                        try clear c4b0
                                        try clear c4b1
                                        try clear p6
                                        try clear c7
                                        try clear c7b0
                                        try clear c8
                                        try clear c8b0
                                        try clear c9
                                        try clear c9b0
                                        try clear c10
                                        try clear c10b0
                                        try clear c10b1
                                        try clear c11
                                        try clear c12
                                        try clear c13
                                        try clear c13b0
                                        try clear p13
                                        try clear q13
                                        try clear hx13
                                        try clear c14
                                        try clear c14b0
                                        try clear p15
                                        try clear q15
                                        try clear hx15
                                        try clear hf15
                                        try clear c20
                                        try clear c20b0
                                        try clear c20b1
                                        try clear c20b2
                                        try clear c23
                                        try clear c23b0
                                        try clear c23b1
                                        try clear c24
                                        try clear c24b0
                                        try clear c24b1
                                        try clear c25
                                        try clear c25b0
                                        try clear c25b1
                                        try clear c26
                                        try clear c26b0
                                        try clear c26b1
                                        try clear q28
                                        try clear q31
                                        try clear c33
                                        try clear c33b0
                                        try clear c34
                                        try clear c34b0
                                        try clear c35
                                        try clear c35b0
                                        try clear c35b1
                                        try clear c36
                                        try clear c36b0
                                        try clear c36b1
                                        try clear c37
                                        try clear c37b0
                                        try clear c37b1
                                        try clear c38
                                        try clear q38
                                        try clear hx139_0
                                        try clear hx15_0
                                        try clear p1
                                        try clear p13
                                        try clear p139
                                        try clear p15
                                        try clear p2
                                        try clear p6
                                        try clear q038
                                        try clear q1
                                        try clear q13
                                        try clear q139
                                        try clear q15
                                        try clear q2
                                        try clear q28
                                        try clear q3
                                        try clear q31
                                        try clear q38
                                        obtain ⟨x16_4, x79_4, rfl, rfl, HA, HK4, HO_8, HO_11, HO_12, HR156, HB⟩ := hrel
                                        cases gk with
                                        | zero => exact absurd HA.out (by simp [gcr_Read.l3])
                                        | succ k4 =>
                                          have H := HA.out
                                          clear HA
                                          simp only [gcr_Read.l3] at H
                                          by_cases c39 : x79_4 < (y153.length : Int)
                                          · rw [if_pos c39] at H
                                            have c39b0 : decide (x79_4 < (y153.length : Int)) = true := decide_eq_true c39
                                            (try simp only [hl29_1] at c39b0)
                                            clear c39
                                            by_cases c40 : 0 ≤ x79_4
                                            · rw [if_pos c40] at H
                                              have c40b0 : decide (0 ≤ x79_4) = true := decide_eq_true c40
                                              clear c40
                                              by_cases c41 : x79_4 < (y153.length : Int)
                                              · rw [if_pos c41] at H
                                                have c41b0 : decide (x79_4 < (y153.length : Int)) = true := decide_eq_true c41
                                                (try simp only [hl29_1] at c41b0)
                                                clear c41
                                                have H' := Aside0.mk H
                                                clear H
                                                have p157 : 0 ≤ (x79_4 : Int) := of_decide_eq_true (by first | (with_reducible assumption) | assumption)
                                                have q157 : x79_4 < (y153.length : Int) := of_decide_eq_true (by first | (with_reducible assumption) | assumption)
                                                obtain ⟨ad157, e157, hx157_0⟩ := Kd.at_int HR156.out x79_4 p157 q157
                                                cases e157
                                                (try replace hx157_0 := (HB.out.cell (World.block_lt_of_cell? w _ hx157_0)).trans hx157_0)
                                                replace p157 := eq_true p157
                                                replace q157 := eq_true q157
                                                go_wp2
                                                go_roundg k4
                                                case measure => have := HK1.out; have := HK2.out; have := HK3.out; have := HK4.out; omega
                                                case rel => exact ⟨(wrap64 ((wrap64 (x16_4 * 2)) + (rd y153 x79_4))), (wrap64 (x79_4 + 1)), (by first | rfl | (simp; done) | (simp [*]; done)), (by first | rfl | (simp; done) | (simp [*]; done)), H', ⟨by have := HK1.out; have := HK2.out; have := HK3.out; have := HK4.out; omega⟩, ⟨by (try simp only [hl29_1]); (with_reducible repeat (first | apply Kd.R_alloc | apply Kd.R_drewN | apply Kd.R_drew)); exact HO_8.out⟩, ⟨by (try simp only [hl29_1]); (with_reducible repeat (first | apply Kd.R_alloc | apply Kd.R_drewN | apply Kd.R_drew)); exact HO_11.out⟩, ⟨by (try simp only [hl29_1]); (with_reducible repeat (first | apply Kd.R_alloc | apply Kd.R_drewN | apply Kd.R_drew)); exact HO_12.out⟩, ⟨by repeat (first | (with_reducible exact HR156.out) | (with_reducible refine Kd.C_alloc ?_ _) | (with_reducible refine Kd.C_drewN ?_ _) | (with_reducible refine Kd.C_drew ?_) | exact HR156.out)⟩, ⟨by repeat (first | (with_reducible first | exact HB.out | apply below_alloc | apply pw_below_drewN | apply below_drew1) | exact HB.out)⟩⟩
                                              · rw [if_neg c41] at H
                                                exact absurd H (by simp)
                                            · rw [if_neg c40] at H
                                              exact absurd H (by simp)
                                          · rw [if_neg c39] at H
                                            have c39b0 : decide (x79_4 < (y153.length : Int)) = false := decide_eq_false c39
                                            (try simp only [hl29_1] at c39b0)
                                            clear c39
                                            replace H := Option.bind_eq_some_iff.mp H
                                            obtain ⟨t158, A420, H⟩ := H
                                            replace H : (if t158 < 0 then (some (([] : List Int), 3)) else (gcr_Read.l2 k4 y144 x11_2 t147 x13_2 (wrap64 ((wrap64 (x14_3 * 16)) + t158)) (wrap64 (x15_3 + 5)))) = some (r1, r2) := H
                                            have A42 := Aside0.mk A420
                                            clear A420
                                            by_cases c43 : t158 < 0
                                            · rw [if_pos c43] at H
                                              have c43b0 : decide (t158 < 0) = true := decide_eq_true c43
                                              clear c43
                                              simp only [Option.some.injEq, Prod.mk.injEq] at H
                                              obtain ⟨rfl, rfl⟩ := H
                                              obtain ⟨Ao44, co44, eo44⟩ := Kd.R_slice HO_12.out
                                              subst eo44
                                              go_wp2_with (first | ((with_reducible refine gate_callee (f := 24) rfl ?_); refine goesL_ (some 90) rfl rfl Try.func24 (by kernel_rfl) rfl #[.slice Ao44 t147.length co44, .int .i64 x16_4] rfl (by (try simp only [List.map_toArray, List.map_cons, List.map_nil]); first | done | rfl | (simp only [List.length_drop, List.length_take]; rfl)) ?_; (with_reducible refine (slices_Index_int_int.calls k4 _ _ t147 x16_4 t158 _ ?side1 ?side2 A42.out).mono ?_); (case side1 => repeat (first | exact (Kd.R_reads' HO_12.out).2.2 | (with_reducible refine Kd.C_alloc ?_ _) | (with_reducible refine Kd.C_drewN ?_ _) | (with_reducible refine Kd.C_drew ?_))); (case side2 => exact (Kd.R_reads' HO_12.out).2.1); rintro e w' ⟨rfl, ⟨nd, rfl⟩⟩; refine ⟨_, rfl, ?_⟩))
                                              go_ret2
                                              exact ⟨_, by first | rfl | (simp [errW_none, errW_some] <;> rfl) | (simp only [← hji22]; first | rfl | (simp [errW_none, errW_some] <;> rfl)) | (simp [*, errW_none, errW_some] <;> rfl), by first | exact Kd.R_nil _ _ _ _ _ | exact Kd.N_nil _ _ _ _ _ | exact Kd.V_nil _ _ _ _ _ | exact Kd.Q_nil _ _ _ _ _ | exact Kd.S_nil _ _ _ _ _, by repeat (first | (with_reducible first | exact HB.out | apply below_alloc | apply pw_below_drewN | apply below_drew1) | exact HB.out)⟩
                                            · rw [if_neg c43] at H
                                              have c43b0 : decide (t158 < 0) = false := decide_eq_false c43
                                              clear c43
                                              have H' := Aside0.mk H
                                              clear H
                                              obtain ⟨Ao45, co45, eo45⟩ := Kd.R_slice HO_12.out
                                              subst eo45
                                              go_wp2_with (first | ((with_reducible refine gate_callee (f := 24) rfl ?_); refine goesL_ (some 90) rfl rfl Try.func24 (by kernel_rfl) rfl #[.slice Ao45 t147.length co45, .int .i64 x16_4] rfl (by (try simp only [List.map_toArray, List.map_cons, List.map_nil]); first | done | rfl | (simp only [List.length_drop, List.length_take]; rfl)) ?_; (with_reducible refine (slices_Index_int_int.calls k4 _ _ t147 x16_4 t158 _ ?side1 ?side2 A42.out).mono ?_); (case side1 => repeat (first | exact (Kd.R_reads' HO_12.out).2.2 | (with_reducible refine Kd.C_alloc ?_ _) | (with_reducible refine Kd.C_drewN ?_ _) | (with_reducible refine Kd.C_drew ?_))); (case side2 => exact (Kd.R_reads' HO_12.out).2.1); rintro e w' ⟨rfl, ⟨nd, rfl⟩⟩; refine ⟨_, rfl, ?_⟩))
                                              go_roundg k4
                                              case measure => have := HK1.out; have := HK2.out; have := HK3.out; have := HK4.out; omega
                                              case rel => exact ⟨(wrap64 ((wrap64 (x14_3 * 16)) + t158)), (wrap64 (x15_3 + 5)), (by first | rfl | (simp; done) | (simp [*]; done)), (by first | rfl | (simp; done) | (simp [*]; done)), H', ⟨by have := HK1.out; have := HK2.out; have := HK3.out; have := HK4.out; omega⟩, ⟨by (try simp only [hl29_1]); (with_reducible repeat (first | apply Kd.R_alloc | apply Kd.R_drewN | apply Kd.R_drew)); exact HO_8.out⟩, ⟨by (try simp only [hl29_1]); (with_reducible repeat (first | apply Kd.R_alloc | apply Kd.R_drewN | apply Kd.R_drew)); exact HO_11.out⟩, ⟨by (try simp only [hl29_1]); (with_reducible repeat (first | apply Kd.R_alloc | apply Kd.R_drewN | apply Kd.R_drew)); exact HO_12.out⟩, ⟨by repeat (first | (with_reducible first | exact HB.out | apply below_alloc | apply pw_below_drewN | apply below_drew1) | exact HB.out)⟩⟩
                                    · rw [if_neg c37] at H
                                      exact absurd H (by simp)
                                  · rw [if_neg c36] at H
                                    exact absurd H (by simp)
                                · rw [if_neg c35] at H
                                  exact absurd H (by simp)
                              · rw [if_neg c34] at H
                                have c34b0 : decide (x15_3 < (wrap64 (x13_2 + 10))) = false := decide_eq_false c34
                                clear c34
                                by_cases c46 : x11_2.length < 140737488355328
                                · rw [if_pos c46] at H
                                  have LMc46 := Aside0.mk c46
                                  clear c46
                                  obtain ⟨y150, hy150⟩ : ∃ y_ : List Int, y_ = (x11_2 ++ [(x14_3) % 256]) := ⟨_, rfl⟩
                                  replace H : (gcr_Read.l1 k3 y144 y150 t147 (wrap64 (x13_2 + 10))) = some (r1, r2) := by first | (rw [hy150]; with_reducible exact H) | (have H2_ := (Option.bind_some _ _).symm.trans H; rw [hy150]; with_reducible exact H2_) | (have H2_ := (Option.bind_some _ _).symm.trans H; with_reducible exact H2_) | with_reducible exact H | (rw [hy150]; exact H) | exact H
                                  have Ny150 := Aside0.mk hy150
                                  clear hy150
                                  have H' := Aside0.mk H
                                  clear H
                                  go_wp2_with (first | ((with_reducible refine gate_builtin (b := .append) (xs := #[.tmp 97, .tmp 100]) rfl ?_); at_builtin; refine Kd.R_append (Kd.int .u8) (w0 := w) w.heap.size rfl (.tmp 97) (.tmp 100) 22 5 (.int .u8 0) 1 rfl Try.underlying22 info5 rfl (by decide) (by omega) u11 x11_2 ((x14_3) % 256) [.int .u8 ((x14_3) % 256)] (fun _ => True) (fun _ => False) rfl rfl ?aP (fun _ hk => hk.elim) ?aF ?aO ?aB ?aS ?aL ?_; (case aP => exact rfl); (case aB => exact (by repeat (first | (with_reducible first | exact HB.out | apply below_alloc | apply pw_below_drewN | apply below_drew1) | exact HB.out))); (case aF => exact (fun _ _ => trivial)); (case aO => exact (by (with_reducible repeat (first | apply Kd.R_alloc | apply Kd.R_drewN | apply Kd.R_drew)); exact HO_11.out)); (case aS => exact (below_size (by repeat (first | (with_reducible first | exact HB.out | apply below_alloc | apply pw_below_drewN | apply below_drew1) | exact HB.out)))); (case aL => have := LMc46.out; omega); intro v151 w47 ho hb hg hat; rw [← Ny150.out] at ho; have n0_ := Aside0.mk (Kd.R_over' (by (with_reducible repeat (first | apply Kd.R_alloc | apply Kd.R_drewN | apply Kd.R_drew)); exact HO_8.out) (Kd.R_typed (by (with_reducible repeat (first | apply Kd.R_alloc | apply Kd.R_drewN | apply Kd.R_drew)); exact HO_11.out)) (by decide) hg); have n1_ := Aside0.mk (Kd.R_over' (by (with_reducible repeat (first | apply Kd.R_alloc | apply Kd.R_drewN | apply Kd.R_drew)); exact HO_12.out) (Kd.R_typed (by (with_reducible repeat (first | apply Kd.R_alloc | apply Kd.R_drewN | apply Kd.R_drew)); exact HO_11.out)) (by decide) hg); have n2_ := Aside0.mk (hb); have n3_ := Aside0.mk (ho); clear HO_8; clear HO_12; clear HB; clear HO_11; have HO_8 := n0_; have HO_12 := n1_; have HB := n2_; have HO152 := n3_; clear n0_ n1_ n2_ n3_; clear ho hb hg hat))
                                  go_roundg k3
                                  case measure => have := HK1.out; have := HK2.out; have := HK3.out; omega
                                  case rel => exact ⟨(y150), (wrap64 (x13_2 + 10)), (by first | rfl | (simp; done) | (simp [*]; done)), H', ⟨by have := HK1.out; have := HK2.out; have := HK3.out; omega⟩, ⟨by (try simp only [hl29_1]); (with_reducible repeat (first | apply Kd.R_alloc | apply Kd.R_drewN | apply Kd.R_drew)); exact HO_8.out⟩, ⟨by (try simp only [hl29_1]); (with_reducible repeat (first | apply Kd.R_alloc | apply Kd.R_drewN | apply Kd.R_drew)); exact HO152.out⟩, ⟨by (try simp only [hl29_1]); (with_reducible repeat (first | apply Kd.R_alloc | apply Kd.R_drewN | apply Kd.R_drew)); exact HO_12.out⟩, ⟨by repeat (first | (with_reducible first | exact HB.out | apply below_alloc | apply pw_below_drewN | apply below_drew1) | exact HB.out)⟩⟩
                                · rw [if_neg c46] at H
                                  exact absurd H (by simp)
                        · rw [if_neg c33] at H
                          have c33b0 : decide (x13_2 < (y144.length : Int)) = false := decide_eq_false c33
                          (try simp only [hl29_1] at c33b0)
                          clear c33
                          simp only [Option.some.injEq, Prod.mk.injEq] at H
                          obtain ⟨rfl, rfl⟩ := H
                          go_wp2
                          go_ret2
                          exact ⟨_, by first | rfl | (simp [errW_none, errW_some] <;> rfl) | (simp only [← hji22]; first | rfl | (simp [errW_none, errW_some] <;> rfl)) | (simp [*, errW_none, errW_some] <;> rfl), by (with_reducible repeat (first | apply Kd.R_alloc | apply Kd.R_drewN | apply Kd.R_drew)); exact HO_11.out, by repeat (first | (with_reducible first | exact HB.out | apply below_alloc | apply pw_below_drewN | apply below_drew1) | exact HB.out)⟩
                · rw [if_neg c25] at H
                  have c25b0 : (((y144.length : Int) % 10) == 0) = false := beq_eq_false_iff_ne.mpr c25
                  (try simp only [hl29_1] at c25b0)
                  have c25b1 : (((y144.length : Int) % 10) != 0) = true := bne_iff_ne.mpr c25
                  (try simp only [hl29_1] at c25b1)
                  simp only [Option.some.injEq, Prod.mk.injEq] at H
                  obtain ⟨rfl, rfl⟩ := H
                  obtain ⟨Ao48, co48, eo48⟩ := Kd.R_slice HO_8.out
                  subst eo48
                  have q49 : ((ji22) : Int) ≤ ((x8_1.length : Int) : Int) := of_decide_eq_true (by first | (with_reducible assumption) | assumption)
                  obtain ⟨i049, hi049, _, hsz49, _⟩ := info_parts info3
                  have hcut49 := cut_to (P := Try.prog) 23 3 .i64 Try.underlying23 hi049 Ao48 x8_1.length co48 (ji22) (of_decide_eq_true (by first | (with_reducible assumption) | assumption)) q49 (Kd.R_reads' HO_8.out).2.1
                  have hr49 := Kd.R_take (m := ((ji22) : Int).toNat) HO_8.out (by omega)
                  have hy49 : y144.length = ((ji22) : Int).toNat := (by rw [Ny144.out, List.length_take]; omega)
                  rw [← Ny144.out] at hr49
                  rw [← hy49] at hr49 hcut49
                  clear hy49 hi049 hsz49 HO_8
                  have HO146 := Aside0.mk hr49
                  clear hr49
                  replace q49 := eq_true q49
                  go_wp2
                  go_ret2
                  exact ⟨_, by first | rfl | (simp [errW_none, errW_some] <;> rfl) | (simp only [← hji22]; first | rfl | (simp [errW_none, errW_some] <;> rfl)) | (simp [*, errW_none, errW_some] <;> rfl), by first | exact Kd.R_nil _ _ _ _ _ | exact Kd.N_nil _ _ _ _ _ | exact Kd.V_nil _ _ _ _ _ | exact Kd.Q_nil _ _ _ _ _ | exact Kd.S_nil _ _ _ _ _, by repeat (first | (with_reducible first | exact HB.out | apply below_alloc | apply pw_below_drewN | apply below_drew1) | exact HB.out)⟩
              · rw [if_neg c24] at H
                exact absurd H (by simp)
            · rw [if_neg c23] at H
              exact absurd H (by simp)
  · rw [if_neg c4] at H
    have c4b0 : (t136 == 0) = false := beq_eq_false_iff_ne.mpr c4
    have c4b1 : (t136 != 0) = true := bne_iff_ne.mpr c4
    simp only [Option.some.injEq, Prod.mk.injEq] at H
    obtain ⟨rfl, rfl⟩ := H
    go_enter Try.func7, Try.ntmps7
    go_wp2_with (first | ((with_reducible refine gate_callee (f := 23) rfl ?_); refine goesL_ (some 23) rfl rfl Try.func23 (by kernel_rfl) rfl #[.slice A0 l0.length c0, .int .i64 a1, .int .i64 3] rfl (by (try simp only [List.map_toArray, List.map_cons, List.map_nil]); first | done | rfl | (simp only [List.length_drop, List.length_take]; rfl)) ?_; (with_reducible refine (flux_Cells.calls k _ _ l0 a1 3 t135 t136 _ ?side1 ?side2 A3.out).mono ?_); (case side1 => repeat (first | exact HR0.out | (with_reducible refine Kd.C_alloc ?_ _) | (with_reducible refine Kd.C_drewN ?_ _) | (with_reducible refine Kd.C_drew ?_))); (case side2 => exact HC0.out); rintro e w50 ⟨v137, rfl, ho0, hb⟩; refine ⟨_, rfl, ?_⟩; have n0_ := Aside0.mk (Kd.R_lower ho0 (below_size (by repeat (first | (with_reducible first | exact HB.out | apply below_alloc | apply pw_below_drewN | apply below_drew1) | exact HB.out)))); have n1_ := Aside0.mk (below_step (by repeat (first | (with_reducible first | exact HB.out | apply below_alloc | apply pw_below_drewN | apply below_drew1) | exact HB.out)) hb); clear HB; have HO138 := n0_; have HB := n1_; clear n0_ n1_; (try clear hb); (try clear hb2); (try clear hk); (try clear hi); (try clear ho0)))
    go_ret2
    exact ⟨_, by first | rfl | (simp [errW_none, errW_some] <;> rfl) | (simp [*, errW_none, errW_some] <;> rfl), by first | exact Kd.R_nil _ _ _ _ _ | exact Kd.N_nil _ _ _ _ _ | exact Kd.V_nil _ _ _ _ _ | exact Kd.Q_nil _ _ _ _ _ | exact Kd.S_nil _ _ _ _ _, by repeat (first | (with_reducible first | exact HB.out | apply below_alloc | apply pw_below_drewN | apply below_drew1) | exact HB.out)⟩

end Go.Proofs.Ytmedmifkeliepaa.PGcrWrites
