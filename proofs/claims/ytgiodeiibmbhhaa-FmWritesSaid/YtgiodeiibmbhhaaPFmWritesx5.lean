-- Written by this session's own program (wip/mp, over the kit's print) for this claim; Lean checks it.
import Derived.Test.YtgiodeiibmbhhaaPFmWritesx0
import Derived.Test.YtgiodeiibmbhhaaPFmWritesx4
namespace Go.Proofs.Ytgiodeiibmbhhaa.PFmWrites
open Go.RowKit Go.Proofs.YtgiodeiibmbhhaaW.PrintWords Go.Proofs.YtgiodeiibmbhhaaW.PrintLast Go.Proofs.YtgiodeiibmbhhaaW.PrintMore
attribute [local go_sem] max2_int min2_int max_two min_two max_three min_three max_four min_four   -- for this text's walks alone
set_option linter.unusedVariables false
set_option linter.unusedSimpArgs false

/-! ### bakeref2_Counts: function 79 -/
mutual
def bakeref2_Counts.j0 : Nat → List Int → Int → Int → Bool → Option (List Int × Int)
  | 0, _, _, _, _ => none
  | k + 1, x0, x1, x2, x23 => if x23 = true then (some (([] : List Int), 1)) else (bakeref2_Counts.l0 k x1 x2 ([] : List Int) x0 (x0.length : Int) 0)
def bakeref2_Counts.l0 : Nat → Int → Int → List Int → List Int → Int → Int → Option (List Int × Int)
  | 0, _, _, _, _, _, _ => none
  | k + 1, x1, x2, x9, x24, x25, x26 => if x26 < x25 then (if 0 ≤ x26 then (if x26 < (x24.length : Int) then (if x1 = 0 then (none) else (if (wrap64 (2 * (Int.tmod (rd x24 x26) x1))) ≥ x1 then (if (wrap64 ((wrap64 (Int.tdiv (rd x24 x26) x1)) + 1)) = 0 then (some (([] : List Int), 18)) else (if (wrap64 ((wrap64 (Int.tdiv (rd x24 x26) x1)) + 1)) > x2 then (some (([] : List Int), 18)) else (if x9.length < 17592186044416 then (bakeref2_Counts.l0 k x1 x2 (x9 ++ [wrap64 ((wrap64 (Int.tdiv (rd x24 x26) x1)) + 1)]) x24 x25 (wrap64 (x26 + 1))) else (none)))) else (if (wrap64 (Int.tdiv (rd x24 x26) x1)) = 0 then (some (([] : List Int), 18)) else (if (wrap64 (Int.tdiv (rd x24 x26) x1)) > x2 then (some (([] : List Int), 18)) else (if x9.length < 17592186044416 then (bakeref2_Counts.l0 k x1 x2 (x9 ++ [wrap64 (Int.tdiv (rd x24 x26) x1)]) x24 x25 (wrap64 (x26 + 1))) else (none)))))) else (none)) else (none)) else (some (x9, 0))
end
def bakeref2_Counts.f (k : Nat) (l0 : List Int) (a1 : Int) (a2 : Int) : Option (List Int × Int) := (bakeref2_TrackErr.f k l0).bind fun t174 => (if t174 = 0 then (if a1 < 2 then (bakeref2_Counts.j0 k l0 a1 a2 true) else (bakeref2_Counts.j0 k l0 a1 a2 (decide (a1 > 1000)))) else (some (([] : List Int), t174)))
theorem bakeref2_Counts.mono_l : ∀ k, (∀ y0 y1 y2 y3, LeO (bakeref2_Counts.j0 k y0 y1 y2 y3) (bakeref2_Counts.j0 (k + 1) y0 y1 y2 y3)) ∧ (∀ y0 y1 y2 y3 y4 y5, LeO (bakeref2_Counts.l0 k y0 y1 y2 y3 y4 y5) (bakeref2_Counts.l0 (k + 1) y0 y1 y2 y3 y4 y5))
  | 0 => ⟨fun _ _ _ _ r h => by simp [bakeref2_Counts.j0] at h, fun _ _ _ _ _ _ r h => by simp [bakeref2_Counts.l0] at h⟩
  | k + 1 => by
    obtain ⟨ih0, ih1⟩ := bakeref2_Counts.mono_l k
    refine ⟨?_, ?_⟩
    · intro y0 y1 y2 y3
      unfold bakeref2_Counts.j0
      repeat' first
      | (with_reducible exact ih0 _ _ _ _)
      | (with_reducible exact ih1 _ _ _ _ _ _)
      | (with_reducible exact bakeref2_TrackErr.mono _ _)
      | (with_reducible exact LeO.refl _)
      | (with_reducible exact LeO.none _)
      | (with_reducible refine LeO.ite ?_ ?_)
      | (with_reducible refine LeO.bind ?_ (fun _ => ?_))
      | exact ih0 _ _ _ _
      | exact ih1 _ _ _ _ _ _
      | exact bakeref2_TrackErr.mono _ _
      | exact LeO.none _
      | refine LeO.ite ?_ ?_
      | refine LeO.bind ?_ (fun _ => ?_)
    · intro y0 y1 y2 y3 y4 y5
      unfold bakeref2_Counts.l0
      repeat' first
      | (with_reducible exact ih0 _ _ _ _)
      | (with_reducible exact ih1 _ _ _ _ _ _)
      | (with_reducible exact bakeref2_TrackErr.mono _ _)
      | (with_reducible exact LeO.refl _)
      | (with_reducible exact LeO.none _)
      | (with_reducible refine LeO.ite ?_ ?_)
      | (with_reducible refine LeO.bind ?_ (fun _ => ?_))
      | exact ih0 _ _ _ _
      | exact ih1 _ _ _ _ _ _
      | exact bakeref2_TrackErr.mono _ _
      | exact LeO.none _
      | refine LeO.ite ?_ ?_
      | refine LeO.bind ?_ (fun _ => ?_)
theorem bakeref2_Counts.mono : ∀ a0 a1 a2 k, LeO (bakeref2_Counts.f k a0 a1 a2) (bakeref2_Counts.f (k + 1) a0 a1 a2) := by
  intro a0 a1 a2 k
  obtain ⟨ih0, ih1⟩ := bakeref2_Counts.mono_l k
  unfold bakeref2_Counts.f
  repeat' first
      | (with_reducible exact ih0 _ _ _ _)
      | (with_reducible exact ih1 _ _ _ _ _ _)
      | (with_reducible exact bakeref2_TrackErr.mono _ _)
      | (with_reducible exact LeO.refl _)
      | (with_reducible exact LeO.none _)
      | (with_reducible refine LeO.ite ?_ ?_)
      | (with_reducible refine LeO.bind ?_ (fun _ => ?_))
      | exact ih0 _ _ _ _
      | exact ih1 _ _ _ _ _ _
      | exact bakeref2_TrackErr.mono _ _
      | exact LeO.none _
      | refine LeO.ite ?_ ?_
      | refine LeO.bind ?_ (fun _ => ?_)
set_option maxHeartbeats 8000000 in
set_option maxRecDepth 100000 in
theorem bakeref2_Counts.calls (k : Nat) (A0 : Option Addr) (c0 : Nat) (l0 : List Int) (a1 : Int) (a2 : Int) (r1 : List Int) (r2 : Int) (w : World) (hr0 : Kd.C (Kd.int .i64) w A0 l0.length l0) (hc0 : l0.length ≤ c0) (h : bakeref2_Counts.f k l0 a1 a2 = some (r1, r2)) :
    Calls Try.prog 79 #[.slice A0 l0.length c0, .int .i64 a1, .int .i64 a2] w fun e w' => ∃ v0_ : Value, e = .returned (.tuple #[v0_, .int .i64 r2]) ∧ Kd.R (Kd.int .i64) 3 w' w.heap.size (fun _ => True) v0_ r1 ∧ Below w.heap.size w w' := by
  have HR0 := Aside0.mk hr0
  have HC0 := Aside0.mk hc0
  clear hr0 hc0
  have HB := Aside0.mk (Below.refl w.heap.size w)
  have H : ((bakeref2_TrackErr.f k l0).bind fun t174 => (if t174 = 0 then (if a1 < 2 then (bakeref2_Counts.j0 k l0 a1 a2 true) else (bakeref2_Counts.j0 k l0 a1 a2 (decide (a1 > 1000)))) else (some (([] : List Int), t174)))) = some (r1, r2) := h
  clear h
  replace H := Option.bind_eq_some_iff.mp H
  obtain ⟨t174, A40, H⟩ := H
  replace H : (if t174 = 0 then (if a1 < 2 then (bakeref2_Counts.j0 k l0 a1 a2 true) else (bakeref2_Counts.j0 k l0 a1 a2 (decide (a1 > 1000)))) else (some (([] : List Int), t174))) = some (r1, r2) := H
  have A4 := Aside0.mk A40
  clear A40
  by_cases c5 : t174 = 0
  · rw [if_pos c5] at H
    have c5b0 : (t174 == 0) = true := beq_iff_eq.mpr c5
    have c5b1 : (t174 != 0) = false := bne_eq_false_iff_eq.mpr c5
    clear c5
    have HC6 := Aside0.mk H
    clear H
    go_enter Try.func79, Try.ntmps79
    go_upto_region 4 with (first | ((with_reducible refine gate_callee (f := 32) rfl ?_); refine goesL_ (some 14) rfl rfl Try.func32 (by kernel_rfl) rfl #[.slice A0 l0.length c0] rfl (by (try simp only [List.map_toArray, List.map_cons, List.map_nil]); first | done | rfl | (simp only [List.length_drop, List.length_take]; rfl)) ?_; (with_reducible refine (bakeref2_TrackErr.calls k _ _ l0 t174 _ ?side1 ?side2 A4.out).mono ?_); (case side1 => repeat (first | exact HR0.out | (with_reducible refine Kd.C_alloc ?_ _) | (with_reducible refine Kd.C_drewN ?_ _) | (with_reducible refine Kd.C_drew ?_))); (case side2 => exact HC0.out); rintro e w' ⟨rfl, ⟨nd, rfl⟩⟩; refine ⟨_, rfl, ?_⟩))
    (try simp only [Act.put, List.setIfInBounds_toArray, List.set_cons_zero, List.set_cons_succ])
    go_cut [23] (fun v23 wc => ∃ (kq : Nat) (x23_5 : Bool), v23 = .bool x23_5 ∧ Aside0 (bakeref2_Counts.j0 kq l0 a1 a2 x23_5 = some (r1, r2)) ∧ Aside0 (kq ≤ k) ∧ Aside0 (Below w.heap.size w wc))
    case first =>
      have H := HC6.out
      clear HC6
      by_cases c7 : a1 < 2
      · rw [if_pos c7] at H
        have c7b0 : decide (a1 < 2) = true := decide_eq_true c7
        clear c7
        (first | rw [c7b0] | (simp only [i64_w, i32_w]; rw [c7b0]) | skip)
        have H' := Aside0.mk H
        clear H
        go_wp2
        go_meet
        case rel => exact ⟨_, (true), (by first | rfl | (simp; done) | (simp [*]; done)), H', ⟨by first | omega | exact Nat.le_refl _⟩, ⟨by repeat (first | (with_reducible first | exact HB.out | apply below_alloc | apply pw_below_drewN | apply below_drew1) | exact HB.out)⟩⟩
      · rw [if_neg c7] at H
        have c7b0 : decide (a1 < 2) = false := decide_eq_false c7
        clear c7
        (first | rw [c7b0] | (simp only [i64_w, i32_w]; rw [c7b0]) | skip)
        have H' := Aside0.mk H
        clear H
        go_wp2
        go_meet
        case rel => exact ⟨_, (decide (a1 > 1000)), (by first | rfl | (simp; done) | (simp [*]; done)), H', ⟨by first | omega | exact Nat.le_refl _⟩, ⟨by repeat (first | (with_reducible first | exact HB.out | apply below_alloc | apply pw_below_drewN | apply below_drew1) | exact HB.out)⟩⟩
    case rest =>
      clear HC6
      try clear p2
      try clear c3
      try clear c5
      try clear c5b0
      try clear c5b1
      try clear c7
      try clear c7b0
      obtain ⟨kq, x23_5, rfl, HA, HJ5, HB⟩ := hcut
      cases kq with
      | zero => exact absurd HA.out (by simp [bakeref2_Counts.j0])
      | succ kj5 =>
        have H := HA.out
        clear HA
        simp only [bakeref2_Counts.j0] at H
        by_cases c8 : x23_5 = true
        · subst c8
          have H1 : (some (([] : List Int), 1)) = some (r1, r2) := by rw [if_pos rfl] at H; exact H
          clear H
          have H := H1
          clear H1
          simp only [Option.some.injEq, Prod.mk.injEq] at H
          obtain ⟨rfl, rfl⟩ := H
          go_wp2
          go_ret2
          exact ⟨_, by first | rfl | (simp [errW_none, errW_some] <;> rfl) | (simp [*, errW_none, errW_some] <;> rfl), by first | exact Kd.R_nil _ _ _ _ _ | exact Kd.N_nil _ _ _ _ _ | exact Kd.V_nil _ _ _ _ _ | exact Kd.Q_nil _ _ _ _ _ | exact Kd.S_nil _ _ _ _ _, by repeat (first | (with_reducible first | exact HB.out | apply below_alloc | apply pw_below_drewN | apply below_drew1) | exact HB.out)⟩
        · replace c8 := Bool.eq_false_iff.mpr c8
          subst c8
          have H1 : (bakeref2_Counts.l0 kj5 a1 a2 ([] : List Int) l0 (l0.length : Int) 0) = some (r1, r2) := by rw [if_neg (show ¬ (false = true) by decide)] at H; exact H
          clear H
          have H := H1
          clear H1
          have H' := Aside0.mk H
          clear H
          go_wp2
          go_loopg [9, 26] kj5 (fun kq v9 v26 w' => ∃ (x9_2 : List Int) (x26_2 : Int), v26 = .int .i64 x26_2 ∧ Aside0 (bakeref2_Counts.l0 kq a1 a2 x9_2 l0 (l0.length : Int) x26_2 = some (r1, r2)) ∧ Aside0 (kq ≤ kj5) ∧ Aside0 (Kd.R (Kd.int .i64) 3 w' w.heap.size (fun _ => True) v9 x9_2) ∧ Aside0 (Below w.heap.size w w'))
          case atStart => exact ⟨(([] : List Int)), (0), (by first | rfl | (simp; done) | (simp [*]; done)), H', ⟨Nat.le_refl _⟩, ⟨by first | exact Kd.R_nil _ _ _ _ _ | exact Kd.N_nil _ _ _ _ _ | exact Kd.V_nil _ _ _ _ _ | exact Kd.Q_nil _ _ _ _ _ | exact Kd.S_nil _ _ _ _ _⟩, ⟨by repeat (first | (with_reducible first | exact HB.out | apply below_alloc | apply pw_below_drewN | apply below_drew1) | exact HB.out)⟩⟩
          case round =>
            clear H'
            try clear p2
            try clear c3
            try clear c5
            try clear c5b0
            try clear c5b1
            try clear c7
            try clear c7b0
            try clear c8
            try clear p2
            obtain ⟨x9_2, x26_2, rfl, HA, HK2, HO_9, HB⟩ := hrel
            cases gk with
            | zero => exact absurd HA.out (by simp [bakeref2_Counts.l0])
            | succ k2 =>
              have H := HA.out
              clear HA
              simp only [bakeref2_Counts.l0] at H
              by_cases c9 : x26_2 < (l0.length : Int)
              · rw [if_pos c9] at H
                have c9b0 : decide (x26_2 < (l0.length : Int)) = true := decide_eq_true c9
                clear c9
                by_cases c10 : 0 ≤ x26_2
                · rw [if_pos c10] at H
                  have c10b0 : decide (0 ≤ x26_2) = true := decide_eq_true c10
                  clear c10
                  by_cases c11 : x26_2 < (l0.length : Int)
                  · rw [if_pos c11] at H
                    have c11b0 : decide (x26_2 < (l0.length : Int)) = true := decide_eq_true c11
                    clear c11
                    by_cases c12 : a1 = 0
                    · rw [if_pos c12] at H
                      exact absurd H (by simp)
                    · rw [if_neg c12] at H
                      have c12b0 : (a1 == 0) = false := beq_eq_false_iff_ne.mpr c12
                      have c12b1 : (a1 != 0) = true := bne_iff_ne.mpr c12
                      by_cases c13 : (wrap64 (2 * (Int.tmod (rd l0 x26_2) a1))) ≥ a1
                      · rw [if_pos c13] at H
                        have c13b0 : decide (a1 ≤ (wrap64 (2 * (Int.tmod (rd l0 x26_2) a1)))) = true := decide_eq_true c13
                        clear c13
                        by_cases c14 : (wrap64 ((wrap64 (Int.tdiv (rd l0 x26_2) a1)) + 1)) = 0
                        · rw [if_pos c14] at H
                          have c14b0 : ((wrap64 ((wrap64 (Int.tdiv (rd l0 x26_2) a1)) + 1)) == 0) = true := beq_iff_eq.mpr c14
                          have c14b1 : ((wrap64 ((wrap64 (Int.tdiv (rd l0 x26_2) a1)) + 1)) != 0) = false := bne_eq_false_iff_eq.mpr c14
                          clear c14
                          simp only [Option.some.injEq, Prod.mk.injEq] at H
                          obtain ⟨rfl, rfl⟩ := H
                          have p175 : 0 ≤ (x26_2 : Int) := of_decide_eq_true (by first | (with_reducible assumption) | assumption)
                          have q175 : x26_2 < (l0.length : Int) := of_decide_eq_true (by first | (with_reducible assumption) | assumption)
                          obtain ⟨ad175, e175, hx175_0⟩ := Kd.at_int HR0.out x26_2 p175 q175
                          cases e175
                          replace hx175_0 := (HB.out.cell (World.block_lt_of_cell? w _ hx175_0)).trans hx175_0
                          replace p175 := eq_true p175
                          replace q175 := eq_true q175
                          go_wp2
                          go_ret2
                          exact ⟨_, by first | rfl | (simp [errW_none, errW_some] <;> rfl) | (simp [*, errW_none, errW_some] <;> rfl), by first | exact Kd.R_nil _ _ _ _ _ | exact Kd.N_nil _ _ _ _ _ | exact Kd.V_nil _ _ _ _ _ | exact Kd.Q_nil _ _ _ _ _ | exact Kd.S_nil _ _ _ _ _, by repeat (first | (with_reducible first | exact HB.out | apply below_alloc | apply pw_below_drewN | apply below_drew1) | exact HB.out)⟩
                        · rw [if_neg c14] at H
                          have c14b0 : ((wrap64 ((wrap64 (Int.tdiv (rd l0 x26_2) a1)) + 1)) == 0) = false := beq_eq_false_iff_ne.mpr c14
                          have c14b1 : ((wrap64 ((wrap64 (Int.tdiv (rd l0 x26_2) a1)) + 1)) != 0) = true := bne_iff_ne.mpr c14
                          by_cases c15 : (wrap64 ((wrap64 (Int.tdiv (rd l0 x26_2) a1)) + 1)) > a2
                          · rw [if_pos c15] at H
                            have c15b0 : decide (a2 < (wrap64 ((wrap64 (Int.tdiv (rd l0 x26_2) a1)) + 1))) = true := decide_eq_true c15
                            clear c15
                            simp only [Option.some.injEq, Prod.mk.injEq] at H
                            obtain ⟨rfl, rfl⟩ := H
                            have p175 : 0 ≤ (x26_2 : Int) := of_decide_eq_true (by first | (with_reducible assumption) | assumption)
                            have q175 : x26_2 < (l0.length : Int) := of_decide_eq_true (by first | (with_reducible assumption) | assumption)
                            obtain ⟨ad175, e175, hx175_0⟩ := Kd.at_int HR0.out x26_2 p175 q175
                            cases e175
                            replace hx175_0 := (HB.out.cell (World.block_lt_of_cell? w _ hx175_0)).trans hx175_0
                            replace p175 := eq_true p175
                            replace q175 := eq_true q175
                            go_wp2
                            go_ret2
                            exact ⟨_, by first | rfl | (simp [errW_none, errW_some] <;> rfl) | (simp [*, errW_none, errW_some] <;> rfl), by first | exact Kd.R_nil _ _ _ _ _ | exact Kd.N_nil _ _ _ _ _ | exact Kd.V_nil _ _ _ _ _ | exact Kd.Q_nil _ _ _ _ _ | exact Kd.S_nil _ _ _ _ _, by repeat (first | (with_reducible first | exact HB.out | apply below_alloc | apply pw_below_drewN | apply below_drew1) | exact HB.out)⟩
                          · rw [if_neg c15] at H
                            have c15b0 : decide (a2 < (wrap64 ((wrap64 (Int.tdiv (rd l0 x26_2) a1)) + 1))) = false := decide_eq_false c15
                            clear c15
                            by_cases c16 : x9_2.length < 17592186044416
                            · rw [if_pos c16] at H
                              have LMc16 := Aside0.mk c16
                              clear c16
                              obtain ⟨y176, hy176⟩ : ∃ y_ : List Int, y_ = (x9_2 ++ [wrap64 ((wrap64 (Int.tdiv (rd l0 x26_2) a1)) + 1)]) := ⟨_, rfl⟩
                              replace H : (bakeref2_Counts.l0 k2 a1 a2 y176 l0 (l0.length : Int) (wrap64 (x26_2 + 1))) = some (r1, r2) := by first | (rw [hy176]; with_reducible exact H) | (have H2_ := (Option.bind_some _ _).symm.trans H; rw [hy176]; with_reducible exact H2_) | (have H2_ := (Option.bind_some _ _).symm.trans H; with_reducible exact H2_) | with_reducible exact H | (rw [hy176]; exact H) | exact H
                              have Ny176 := Aside0.mk hy176
                              clear hy176
                              have H' := Aside0.mk H
                              clear H
                              have p175 : 0 ≤ (x26_2 : Int) := of_decide_eq_true (by first | (with_reducible assumption) | assumption)
                              have q175 : x26_2 < (l0.length : Int) := of_decide_eq_true (by first | (with_reducible assumption) | assumption)
                              obtain ⟨ad175, e175, hx175_0⟩ := Kd.at_int HR0.out x26_2 p175 q175
                              cases e175
                              replace hx175_0 := (HB.out.cell (World.block_lt_of_cell? w _ hx175_0)).trans hx175_0
                              replace p175 := eq_true p175
                              replace q175 := eq_true q175
                              go_wp2_with (first | ((with_reducible refine gate_builtin (b := .append) (xs := #[.tmp 48, .tmp 50]) rfl ?_); at_builtin; refine Kd.R_append (Kd.int .i64) (w0 := w) w.heap.size rfl (.tmp 48) (.tmp 50) 43 3 (.int .i64 0) 8 rfl Try.underlying43 info3 rfl (by decide) (by omega) u9 x9_2 (wrap64 ((wrap64 (Int.tdiv (rd l0 x26_2) a1)) + 1)) [.int .i64 (wrap64 ((wrap64 (Int.tdiv (rd l0 x26_2) a1)) + 1))] (fun _ => True) (fun _ => False) rfl rfl ?aP (fun _ hk => hk.elim) ?aF ?aO ?aB ?aS ?aL ?_; (case aP => exact rfl); (case aB => exact (by repeat (first | (with_reducible first | exact HB.out | apply below_alloc | apply pw_below_drewN | apply below_drew1) | exact HB.out))); (case aF => exact (fun _ _ => trivial)); (case aO => exact (by (with_reducible repeat (first | apply Kd.R_alloc | apply Kd.R_drewN | apply Kd.R_drew)); exact HO_9.out)); (case aS => exact (below_size (by repeat (first | (with_reducible first | exact HB.out | apply below_alloc | apply pw_below_drewN | apply below_drew1) | exact HB.out)))); (case aL => have := LMc16.out; omega); intro v177 w17 ho hb hg hat; rw [← Ny176.out] at ho; have n0_ := Aside0.mk (hb); have n1_ := Aside0.mk (ho); clear HB; clear HO_9; have HB := n0_; have HO178 := n1_; clear n0_ n1_; clear ho hb hg hat))
                              go_roundg k2
                              case measure => have := HJ5.out; have := HK2.out; omega
                              case rel => exact ⟨(y176), (wrap64 (x26_2 + 1)), (by first | rfl | (simp; done) | (simp [*]; done)), H', ⟨by have := HJ5.out; have := HK2.out; omega⟩, ⟨by (with_reducible repeat (first | apply Kd.R_alloc | apply Kd.R_drewN | apply Kd.R_drew)); exact HO178.out⟩, ⟨by repeat (first | (with_reducible first | exact HB.out | apply below_alloc | apply pw_below_drewN | apply below_drew1) | exact HB.out)⟩⟩
                            · rw [if_neg c16] at H
                              exact absurd H (by simp)
                      · rw [if_neg c13] at H
                        have c13b0 : decide (a1 ≤ (wrap64 (2 * (Int.tmod (rd l0 x26_2) a1)))) = false := decide_eq_false c13
                        clear c13
                        by_cases c18 : (wrap64 (Int.tdiv (rd l0 x26_2) a1)) = 0
                        · rw [if_pos c18] at H
                          have c18b0 : ((wrap64 (Int.tdiv (rd l0 x26_2) a1)) == 0) = true := beq_iff_eq.mpr c18
                          have c18b1 : ((wrap64 (Int.tdiv (rd l0 x26_2) a1)) != 0) = false := bne_eq_false_iff_eq.mpr c18
                          clear c18
                          simp only [Option.some.injEq, Prod.mk.injEq] at H
                          obtain ⟨rfl, rfl⟩ := H
                          have p175 : 0 ≤ (x26_2 : Int) := of_decide_eq_true (by first | (with_reducible assumption) | assumption)
                          have q175 : x26_2 < (l0.length : Int) := of_decide_eq_true (by first | (with_reducible assumption) | assumption)
                          obtain ⟨ad175, e175, hx175_0⟩ := Kd.at_int HR0.out x26_2 p175 q175
                          cases e175
                          replace hx175_0 := (HB.out.cell (World.block_lt_of_cell? w _ hx175_0)).trans hx175_0
                          replace p175 := eq_true p175
                          replace q175 := eq_true q175
                          go_wp2
                          go_ret2
                          exact ⟨_, by first | rfl | (simp [errW_none, errW_some] <;> rfl) | (simp [*, errW_none, errW_some] <;> rfl), by first | exact Kd.R_nil _ _ _ _ _ | exact Kd.N_nil _ _ _ _ _ | exact Kd.V_nil _ _ _ _ _ | exact Kd.Q_nil _ _ _ _ _ | exact Kd.S_nil _ _ _ _ _, by repeat (first | (with_reducible first | exact HB.out | apply below_alloc | apply pw_below_drewN | apply below_drew1) | exact HB.out)⟩
                        · rw [if_neg c18] at H
                          have c18b0 : ((wrap64 (Int.tdiv (rd l0 x26_2) a1)) == 0) = false := beq_eq_false_iff_ne.mpr c18
                          have c18b1 : ((wrap64 (Int.tdiv (rd l0 x26_2) a1)) != 0) = true := bne_iff_ne.mpr c18
                          by_cases c19 : (wrap64 (Int.tdiv (rd l0 x26_2) a1)) > a2
                          · rw [if_pos c19] at H
                            have c19b0 : decide (a2 < (wrap64 (Int.tdiv (rd l0 x26_2) a1))) = true := decide_eq_true c19
                            clear c19
                            simp only [Option.some.injEq, Prod.mk.injEq] at H
                            obtain ⟨rfl, rfl⟩ := H
                            have p175 : 0 ≤ (x26_2 : Int) := of_decide_eq_true (by first | (with_reducible assumption) | assumption)
                            have q175 : x26_2 < (l0.length : Int) := of_decide_eq_true (by first | (with_reducible assumption) | assumption)
                            obtain ⟨ad175, e175, hx175_0⟩ := Kd.at_int HR0.out x26_2 p175 q175
                            cases e175
                            replace hx175_0 := (HB.out.cell (World.block_lt_of_cell? w _ hx175_0)).trans hx175_0
                            replace p175 := eq_true p175
                            replace q175 := eq_true q175
                            go_wp2
                            go_ret2
                            exact ⟨_, by first | rfl | (simp [errW_none, errW_some] <;> rfl) | (simp [*, errW_none, errW_some] <;> rfl), by first | exact Kd.R_nil _ _ _ _ _ | exact Kd.N_nil _ _ _ _ _ | exact Kd.V_nil _ _ _ _ _ | exact Kd.Q_nil _ _ _ _ _ | exact Kd.S_nil _ _ _ _ _, by repeat (first | (with_reducible first | exact HB.out | apply below_alloc | apply pw_below_drewN | apply below_drew1) | exact HB.out)⟩
                          · rw [if_neg c19] at H
                            have c19b0 : decide (a2 < (wrap64 (Int.tdiv (rd l0 x26_2) a1))) = false := decide_eq_false c19
                            clear c19
                            by_cases c20 : x9_2.length < 17592186044416
                            · rw [if_pos c20] at H
                              have LMc20 := Aside0.mk c20
                              clear c20
                              obtain ⟨y179, hy179⟩ : ∃ y_ : List Int, y_ = (x9_2 ++ [wrap64 (Int.tdiv (rd l0 x26_2) a1)]) := ⟨_, rfl⟩
                              replace H : (bakeref2_Counts.l0 k2 a1 a2 y179 l0 (l0.length : Int) (wrap64 (x26_2 + 1))) = some (r1, r2) := by first | (rw [hy179]; with_reducible exact H) | (have H2_ := (Option.bind_some _ _).symm.trans H; rw [hy179]; with_reducible exact H2_) | (have H2_ := (Option.bind_some _ _).symm.trans H; with_reducible exact H2_) | with_reducible exact H | (rw [hy179]; exact H) | exact H
                              have Ny179 := Aside0.mk hy179
                              clear hy179
                              have H' := Aside0.mk H
                              clear H
                              have p175 : 0 ≤ (x26_2 : Int) := of_decide_eq_true (by first | (with_reducible assumption) | assumption)
                              have q175 : x26_2 < (l0.length : Int) := of_decide_eq_true (by first | (with_reducible assumption) | assumption)
                              obtain ⟨ad175, e175, hx175_0⟩ := Kd.at_int HR0.out x26_2 p175 q175
                              cases e175
                              replace hx175_0 := (HB.out.cell (World.block_lt_of_cell? w _ hx175_0)).trans hx175_0
                              replace p175 := eq_true p175
                              replace q175 := eq_true q175
                              go_wp2_with (first | ((with_reducible refine gate_builtin (b := .append) (xs := #[.tmp 48, .tmp 50]) rfl ?_); at_builtin; refine Kd.R_append (Kd.int .i64) (w0 := w) w.heap.size rfl (.tmp 48) (.tmp 50) 43 3 (.int .i64 0) 8 rfl Try.underlying43 info3 rfl (by decide) (by omega) u9 x9_2 (wrap64 (Int.tdiv (rd l0 x26_2) a1)) [.int .i64 (wrap64 (Int.tdiv (rd l0 x26_2) a1))] (fun _ => True) (fun _ => False) rfl rfl ?aP (fun _ hk => hk.elim) ?aF ?aO ?aB ?aS ?aL ?_; (case aP => exact rfl); (case aB => exact (by repeat (first | (with_reducible first | exact HB.out | apply below_alloc | apply pw_below_drewN | apply below_drew1) | exact HB.out))); (case aF => exact (fun _ _ => trivial)); (case aO => exact (by (with_reducible repeat (first | apply Kd.R_alloc | apply Kd.R_drewN | apply Kd.R_drew)); exact HO_9.out)); (case aS => exact (below_size (by repeat (first | (with_reducible first | exact HB.out | apply below_alloc | apply pw_below_drewN | apply below_drew1) | exact HB.out)))); (case aL => have := LMc20.out; omega); intro v180 w21 ho hb hg hat; rw [← Ny179.out] at ho; have n0_ := Aside0.mk (hb); have n1_ := Aside0.mk (ho); clear HB; clear HO_9; have HB := n0_; have HO181 := n1_; clear n0_ n1_; clear ho hb hg hat))
                              go_roundg k2
                              case measure => have := HJ5.out; have := HK2.out; omega
                              case rel => exact ⟨(y179), (wrap64 (x26_2 + 1)), (by first | rfl | (simp; done) | (simp [*]; done)), H', ⟨by have := HJ5.out; have := HK2.out; omega⟩, ⟨by (with_reducible repeat (first | apply Kd.R_alloc | apply Kd.R_drewN | apply Kd.R_drew)); exact HO181.out⟩, ⟨by repeat (first | (with_reducible first | exact HB.out | apply below_alloc | apply pw_below_drewN | apply below_drew1) | exact HB.out)⟩⟩
                            · rw [if_neg c20] at H
                              exact absurd H (by simp)
                  · rw [if_neg c11] at H
                    exact absurd H (by simp)
                · rw [if_neg c10] at H
                  exact absurd H (by simp)
              · rw [if_neg c9] at H
                have c9b0 : decide (x26_2 < (l0.length : Int)) = false := decide_eq_false c9
                clear c9
                simp only [Option.some.injEq, Prod.mk.injEq] at H
                obtain ⟨rfl, rfl⟩ := H
                go_wp2
                go_ret2
                exact ⟨_, by first | rfl | (simp [errW_none, errW_some] <;> rfl) | (simp [*, errW_none, errW_some] <;> rfl), by (with_reducible repeat (first | apply Kd.R_alloc | apply Kd.R_drewN | apply Kd.R_drew)); exact HO_9.out, by repeat (first | (with_reducible first | exact HB.out | apply below_alloc | apply pw_below_drewN | apply below_drew1) | exact HB.out)⟩
  · rw [if_neg c5] at H
    have c5b0 : (t174 == 0) = false := beq_eq_false_iff_ne.mpr c5
    have c5b1 : (t174 != 0) = true := bne_iff_ne.mpr c5
    simp only [Option.some.injEq, Prod.mk.injEq] at H
    obtain ⟨rfl, rfl⟩ := H
    go_enter Try.func79, Try.ntmps79
    go_wp2_with (first | ((with_reducible refine gate_callee (f := 32) rfl ?_); refine goesL_ (some 14) rfl rfl Try.func32 (by kernel_rfl) rfl #[.slice A0 l0.length c0] rfl (by (try simp only [List.map_toArray, List.map_cons, List.map_nil]); first | done | rfl | (simp only [List.length_drop, List.length_take]; rfl)) ?_; (with_reducible refine (bakeref2_TrackErr.calls k _ _ l0 t174 _ ?side1 ?side2 A4.out).mono ?_); (case side1 => repeat (first | exact HR0.out | (with_reducible refine Kd.C_alloc ?_ _) | (with_reducible refine Kd.C_drewN ?_ _) | (with_reducible refine Kd.C_drew ?_))); (case side2 => exact HC0.out); rintro e w' ⟨rfl, ⟨nd, rfl⟩⟩; refine ⟨_, rfl, ?_⟩))
    go_ret2
    exact ⟨_, by first | rfl | (simp [errW_none, errW_some] <;> rfl) | (simp [*, errW_none, errW_some] <;> rfl), by first | exact Kd.R_nil _ _ _ _ _ | exact Kd.N_nil _ _ _ _ _ | exact Kd.V_nil _ _ _ _ _ | exact Kd.Q_nil _ _ _ _ _ | exact Kd.S_nil _ _ _ _ _, by repeat (first | (with_reducible first | exact HB.out | apply below_alloc | apply pw_below_drewN | apply below_drew1) | exact HB.out)⟩

/-! ### bakeref2_Unplaced: function 97 -/
mutual
def bakeref2_Unplaced.l0 : Nat → List Bool → List Int → Int → Int → Option (List Bool)
  | 0, _, _, _, _ => none
  | k + 1, x3, x6, x7, x8 => if x8 < x7 then (if 0 ≤ x8 then (if x8 < (x6.length : Int) then (bakeref2_Unplaced.l1 k x3 x6 x7 x8 (wrap64 ((rd x6 x8) - 1)) 0) else (none)) else (none)) else (some x3)
def bakeref2_Unplaced.l1 : Nat → List Bool → List Int → Int → Int → Int → Int → Option (List Bool)
  | 0, _, _, _, _, _, _ => none
  | k + 1, x3, x6, x7, x8, x13, x14 => if x14 < x13 then (if x3.length < 140737488355328 then (bakeref2_Unplaced.l1 k (x3 ++ [false]) x6 x7 x8 x13 (wrap64 (x14 + 1))) else (none)) else (if x3.length < 140737488355328 then (bakeref2_Unplaced.l0 k (x3 ++ [true]) x6 x7 (wrap64 (x8 + 1))) else (none))
end
def bakeref2_Unplaced.f (k : Nat) (l0 : List Int) : Option (List Bool) := bakeref2_Unplaced.l0 k ([] : List Bool) l0 (l0.length : Int) 0
theorem bakeref2_Unplaced.mono_l : ∀ k, (∀ y0 y1 y2 y3, LeO (bakeref2_Unplaced.l0 k y0 y1 y2 y3) (bakeref2_Unplaced.l0 (k + 1) y0 y1 y2 y3)) ∧ (∀ y0 y1 y2 y3 y4 y5, LeO (bakeref2_Unplaced.l1 k y0 y1 y2 y3 y4 y5) (bakeref2_Unplaced.l1 (k + 1) y0 y1 y2 y3 y4 y5))
  | 0 => ⟨fun _ _ _ _ r h => by simp [bakeref2_Unplaced.l0] at h, fun _ _ _ _ _ _ r h => by simp [bakeref2_Unplaced.l1] at h⟩
  | k + 1 => by
    obtain ⟨ih0, ih1⟩ := bakeref2_Unplaced.mono_l k
    refine ⟨?_, ?_⟩
    · intro y0 y1 y2 y3
      unfold bakeref2_Unplaced.l0
      repeat' first
      | (with_reducible exact ih0 _ _ _ _)
      | (with_reducible exact ih1 _ _ _ _ _ _)
      | (with_reducible exact LeO.refl _)
      | (with_reducible exact LeO.none _)
      | (with_reducible refine LeO.ite ?_ ?_)
      | (with_reducible refine LeO.bind ?_ (fun _ => ?_))
      | exact ih0 _ _ _ _
      | exact ih1 _ _ _ _ _ _
      | exact LeO.none _
      | refine LeO.ite ?_ ?_
      | refine LeO.bind ?_ (fun _ => ?_)
    · intro y0 y1 y2 y3 y4 y5
      unfold bakeref2_Unplaced.l1
      repeat' first
      | (with_reducible exact ih0 _ _ _ _)
      | (with_reducible exact ih1 _ _ _ _ _ _)
      | (with_reducible exact LeO.refl _)
      | (with_reducible exact LeO.none _)
      | (with_reducible refine LeO.ite ?_ ?_)
      | (with_reducible refine LeO.bind ?_ (fun _ => ?_))
      | exact ih0 _ _ _ _
      | exact ih1 _ _ _ _ _ _
      | exact LeO.none _
      | refine LeO.ite ?_ ?_
      | refine LeO.bind ?_ (fun _ => ?_)
theorem bakeref2_Unplaced.mono : ∀ a0 k, LeO (bakeref2_Unplaced.f k a0) (bakeref2_Unplaced.f (k + 1) a0) := by
  intro a0 k
  obtain ⟨ih0, ih1⟩ := bakeref2_Unplaced.mono_l k
  unfold bakeref2_Unplaced.f
  repeat' first
      | (with_reducible exact ih0 _ _ _ _)
      | (with_reducible exact ih1 _ _ _ _ _ _)
      | (with_reducible exact LeO.refl _)
      | (with_reducible exact LeO.none _)
      | (with_reducible refine LeO.ite ?_ ?_)
      | (with_reducible refine LeO.bind ?_ (fun _ => ?_))
      | exact ih0 _ _ _ _
      | exact ih1 _ _ _ _ _ _
      | exact LeO.none _
      | refine LeO.ite ?_ ?_
      | refine LeO.bind ?_ (fun _ => ?_)
set_option maxHeartbeats 8000000 in
set_option maxRecDepth 100000 in
theorem bakeref2_Unplaced.calls (k : Nat) (A0 : Option Addr) (c0 : Nat) (l0 : List Int) (r : List Bool) (w : World) (hr0 : Kd.C (Kd.int .i64) w A0 l0.length l0) (hc0 : l0.length ≤ c0) (h : bakeref2_Unplaced.f k l0 = some r) :
    Calls Try.prog 97 #[.slice A0 l0.length c0] w fun e w' => ∃ v0_ : Value, e = .returned (v0_) ∧ Kd.R Kd.bool 4 w' w.heap.size (fun _ => True) v0_ r ∧ Below w.heap.size w w' := by
  have HR0 := Aside0.mk hr0
  have HC0 := Aside0.mk hc0
  clear hr0 hc0
  have HB := Aside0.mk (Below.refl w.heap.size w)
  have H : (bakeref2_Unplaced.l0 k ([] : List Bool) l0 (l0.length : Int) 0) = some r := h
  clear h
  have H' := Aside0.mk H
  clear H
  go_enter Try.func97, Try.ntmps97
  go_wp2
  go_loopg [3, 8] k (fun kq v3 v8 w' => ∃ (x3_1 : List Bool) (x8_1 : Int), v8 = .int .i64 x8_1 ∧ Aside0 (bakeref2_Unplaced.l0 kq x3_1 l0 (l0.length : Int) x8_1 = some r) ∧ Aside0 (kq ≤ k) ∧ Aside0 (Kd.R Kd.bool 4 w' w.heap.size (fun _ => True) v3 x3_1) ∧ Aside0 (Below w.heap.size w w'))
  case atStart => exact ⟨(([] : List Bool)), (0), (by first | rfl | (simp; done) | (simp [*]; done)), H', ⟨Nat.le_refl _⟩, ⟨by first | exact Kd.R_nil _ _ _ _ _ | exact Kd.N_nil _ _ _ _ _ | exact Kd.V_nil _ _ _ _ _ | exact Kd.Q_nil _ _ _ _ _ | exact Kd.S_nil _ _ _ _ _⟩, ⟨by repeat (first | (with_reducible first | exact HB.out | apply below_alloc | apply pw_below_drewN | apply below_drew1) | exact HB.out)⟩⟩
  case round =>
    clear H'
    obtain ⟨x3_1, x8_1, rfl, HA, HK1, HO_3, HB⟩ := hrel
    cases gk with
    | zero => exact absurd HA.out (by simp [bakeref2_Unplaced.l0])
    | succ k1 =>
      have H := HA.out
      clear HA
      simp only [bakeref2_Unplaced.l0] at H
      by_cases c2 : x8_1 < (l0.length : Int)
      · rw [if_pos c2] at H
        have c2b0 : decide (x8_1 < (l0.length : Int)) = true := decide_eq_true c2
        clear c2
        by_cases c3 : 0 ≤ x8_1
        · rw [if_pos c3] at H
          have c3b0 : decide (0 ≤ x8_1) = true := decide_eq_true c3
          clear c3
          by_cases c4 : x8_1 < (l0.length : Int)
          · rw [if_pos c4] at H
            have c4b0 : decide (x8_1 < (l0.length : Int)) = true := decide_eq_true c4
            clear c4
            have H' := Aside0.mk H
            clear H
            have p182 : 0 ≤ (x8_1 : Int) := of_decide_eq_true (by first | (with_reducible assumption) | assumption)
            have q182 : x8_1 < (l0.length : Int) := of_decide_eq_true (by first | (with_reducible assumption) | assumption)
            obtain ⟨ad182, e182, hx182_0⟩ := Kd.at_int HR0.out x8_1 p182 q182
            cases e182
            replace hx182_0 := (HB.out.cell (World.block_lt_of_cell? w _ hx182_0)).trans hx182_0
            replace p182 := eq_true p182
            replace q182 := eq_true q182
            go_wp2
            go_loopg [3, 14] k1 (fun kq v3 v14 w' => ∃ (x3_2 : List Bool) (x14_2 : Int), v14 = .int .i64 x14_2 ∧ Aside0 (bakeref2_Unplaced.l1 kq x3_2 l0 (l0.length : Int) x8_1 (wrap64 ((rd l0 x8_1) - 1)) x14_2 = some r) ∧ Aside0 (kq ≤ k1) ∧ Aside0 (Kd.R Kd.bool 4 w' w.heap.size (fun _ => True) v3 x3_2) ∧ Aside0 (Below w.heap.size w w'))
            case atStart => exact ⟨(x3_1), (0), (by first | rfl | (simp; done) | (simp [*]; done)), H', ⟨Nat.le_refl _⟩, ⟨by (with_reducible repeat (first | apply Kd.R_alloc | apply Kd.R_drewN | apply Kd.R_drew)); exact HO_3.out⟩, ⟨by repeat (first | (with_reducible first | exact HB.out | apply below_alloc | apply pw_below_drewN | apply below_drew1) | exact HB.out)⟩⟩
            case round =>
              clear H'
              try clear p1
              try clear q1
              try clear hx1
              try clear c2
              try clear c2b0
              try clear p2
              try clear c3
              try clear c3b0
              try clear c4
              try clear c4b0
              try clear hx182_0
              try clear p182
              try clear q182
              obtain ⟨x3_2, x14_2, rfl, HA, HK2, HO_3, HB⟩ := hrel
              cases gk with
              | zero => exact absurd HA.out (by simp [bakeref2_Unplaced.l1])
              | succ k2 =>
                have H := HA.out
                clear HA
                simp only [bakeref2_Unplaced.l1] at H
                by_cases c5 : x14_2 < (wrap64 ((rd l0 x8_1) - 1))
                · rw [if_pos c5] at H
                  have c5b0 : decide (x14_2 < (wrap64 ((rd l0 x8_1) - 1))) = true := decide_eq_true c5
                  clear c5
                  by_cases c6 : x3_2.length < 140737488355328
                  · rw [if_pos c6] at H
                    have LMc6 := Aside0.mk c6
                    clear c6
                    obtain ⟨y183, hy183⟩ : ∃ y_ : List Bool, y_ = (x3_2 ++ [false]) := ⟨_, rfl⟩
                    replace H : (bakeref2_Unplaced.l1 k2 y183 l0 (l0.length : Int) x8_1 (wrap64 ((rd l0 x8_1) - 1)) (wrap64 (x14_2 + 1))) = some r := by first | (rw [hy183]; with_reducible exact H) | (have H2_ := (Option.bind_some _ _).symm.trans H; rw [hy183]; with_reducible exact H2_) | (have H2_ := (Option.bind_some _ _).symm.trans H; with_reducible exact H2_) | with_reducible exact H | (rw [hy183]; exact H) | exact H
                    have Ny183 := Aside0.mk hy183
                    clear hy183
                    have H' := Aside0.mk H
                    clear H
                    go_wp2_with (first | ((with_reducible refine gate_builtin (b := .append) (xs := #[.tmp 16, .tmp 17]) rfl ?_); at_builtin; refine Kd.R_append Kd.bool (w0 := w) w.heap.size rfl (.tmp 16) (.tmp 17) 39 4 (.bool false) 1 rfl Try.underlying39 info4 rfl (by decide) (by omega) u3 x3_2 false [.bool false] (fun _ => True) (fun _ => False) rfl rfl ?aP (fun _ hk => hk.elim) ?aF ?aO ?aB ?aS ?aL ?_; (case aP => exact rfl); (case aB => exact (by repeat (first | (with_reducible first | exact HB.out | apply below_alloc | apply pw_below_drewN | apply below_drew1) | exact HB.out))); (case aF => exact (fun _ _ => trivial)); (case aO => exact (by (with_reducible repeat (first | apply Kd.R_alloc | apply Kd.R_drewN | apply Kd.R_drew)); exact HO_3.out)); (case aS => exact (below_size (by repeat (first | (with_reducible first | exact HB.out | apply below_alloc | apply pw_below_drewN | apply below_drew1) | exact HB.out)))); (case aL => have := LMc6.out; omega); intro v184 w7 ho hb hg hat; rw [← Ny183.out] at ho; have n0_ := Aside0.mk (hb); have n1_ := Aside0.mk (ho); clear HB; clear HO_3; have HB := n0_; have HO185 := n1_; clear n0_ n1_; clear ho hb hg hat))
                    go_roundg k2
                    case measure => have := HK1.out; have := HK2.out; omega
                    case rel => exact ⟨(y183), (wrap64 (x14_2 + 1)), (by first | rfl | (simp; done) | (simp [*]; done)), H', ⟨by have := HK1.out; have := HK2.out; omega⟩, ⟨by (with_reducible repeat (first | apply Kd.R_alloc | apply Kd.R_drewN | apply Kd.R_drew)); exact HO185.out⟩, ⟨by repeat (first | (with_reducible first | exact HB.out | apply below_alloc | apply pw_below_drewN | apply below_drew1) | exact HB.out)⟩⟩
                  · rw [if_neg c6] at H
                    exact absurd H (by simp)
                · rw [if_neg c5] at H
                  have c5b0 : decide (x14_2 < (wrap64 ((rd l0 x8_1) - 1))) = false := decide_eq_false c5
                  clear c5
                  by_cases c8 : x3_2.length < 140737488355328
                  · rw [if_pos c8] at H
                    have LMc8 := Aside0.mk c8
                    clear c8
                    obtain ⟨y186, hy186⟩ : ∃ y_ : List Bool, y_ = (x3_2 ++ [true]) := ⟨_, rfl⟩
                    replace H : (bakeref2_Unplaced.l0 k2 y186 l0 (l0.length : Int) (wrap64 (x8_1 + 1))) = some r := by first | (rw [hy186]; with_reducible exact H) | (have H2_ := (Option.bind_some _ _).symm.trans H; rw [hy186]; with_reducible exact H2_) | (have H2_ := (Option.bind_some _ _).symm.trans H; with_reducible exact H2_) | with_reducible exact H | (rw [hy186]; exact H) | exact H
                    have Ny186 := Aside0.mk hy186
                    clear hy186
                    have H' := Aside0.mk H
                    clear H
                    go_wp2_with (first | ((with_reducible refine gate_builtin (b := .append) (xs := #[.tmp 20, .tmp 21]) rfl ?_); at_builtin; refine Kd.R_append Kd.bool (w0 := w) w.heap.size rfl (.tmp 20) (.tmp 21) 39 4 (.bool false) 1 rfl Try.underlying39 info4 rfl (by decide) (by omega) u3 x3_2 true [.bool true] (fun _ => True) (fun _ => False) rfl rfl ?aP (fun _ hk => hk.elim) ?aF ?aO ?aB ?aS ?aL ?_; (case aP => exact rfl); (case aB => exact (by repeat (first | (with_reducible first | exact HB.out | apply below_alloc | apply pw_below_drewN | apply below_drew1) | exact HB.out))); (case aF => exact (fun _ _ => trivial)); (case aO => exact (by (with_reducible repeat (first | apply Kd.R_alloc | apply Kd.R_drewN | apply Kd.R_drew)); exact HO_3.out)); (case aS => exact (below_size (by repeat (first | (with_reducible first | exact HB.out | apply below_alloc | apply pw_below_drewN | apply below_drew1) | exact HB.out)))); (case aL => have := LMc8.out; omega); intro v187 w9 ho hb hg hat; rw [← Ny186.out] at ho; have n0_ := Aside0.mk (hb); have n1_ := Aside0.mk (ho); clear HB; clear HO_3; have HB := n0_; have HO188 := n1_; clear n0_ n1_; clear ho hb hg hat))
                    go_roundg k2
                    case measure => have := HK1.out; have := HK2.out; omega
                    case rel => exact ⟨(y186), (wrap64 (x8_1 + 1)), (by first | rfl | (simp; done) | (simp [*]; done)), H', ⟨by have := HK1.out; have := HK2.out; omega⟩, ⟨by (with_reducible repeat (first | apply Kd.R_alloc | apply Kd.R_drewN | apply Kd.R_drew)); exact HO188.out⟩, ⟨by repeat (first | (with_reducible first | exact HB.out | apply below_alloc | apply pw_below_drewN | apply below_drew1) | exact HB.out)⟩⟩
                  · rw [if_neg c8] at H
                    exact absurd H (by simp)
          · rw [if_neg c4] at H
            exact absurd H (by simp)
        · rw [if_neg c3] at H
          exact absurd H (by simp)
      · rw [if_neg c2] at H
        have c2b0 : decide (x8_1 < (l0.length : Int)) = false := decide_eq_false c2
        clear c2
        obtain rfl := Option.some.inj H
        go_wp2
        go_ret
        exact ⟨_, by first | rfl | (simp [errW_none, errW_some] <;> rfl) | (simp [*, errW_none, errW_some] <;> rfl), by (with_reducible repeat (first | apply Kd.R_alloc | apply Kd.R_drewN | apply Kd.R_drew)); exact HO_3.out, by repeat (first | (with_reducible first | exact HB.out | apply below_alloc | apply pw_below_drewN | apply below_drew1) | exact HB.out)⟩

/-! ### bakeref2_Packed: function 98 -/
def bakeref2_Packed.l0 : Nat → List Bool → List Int → Int → Int → Option (List Int)
  | 0, _, _, _, _ => none
  | k + 1, x0, x3, x11, x12 => if x12 < x11 then (if 0 ≤ x12 then (if x12 < (x0.length : Int) then (if rdOf false x0 x12 = true then (if 0 ≤ (wrap64 (Int.tdiv x12 8)) then (if (wrap64 (Int.tdiv x12 8)) < (x3.length : Int) then (if 0 ≤ (Int.tmod x12 8) then (bakeref2_Packed.l0 k x0 (x3.set ((wrap64 (Int.tdiv x12 8)) : Int).toNat (Go.bits .or .u8 (rd x3 (wrap64 (Int.tdiv x12 8))) (shr .u8 128 (Int.tmod x12 8)))) x11 (wrap64 (x12 + 1))) else (none)) else (none)) else (none)) else (bakeref2_Packed.l0 k x0 x3 x11 (wrap64 (x12 + 1)))) else (none)) else (none)) else (some x3)
def bakeref2_Packed.f (k : Nat) (l0 : List Bool) : Option (List Int) := if 0 ≤ (wrap64 ((l0.length : Int) / 8)) then (if (wrap64 ((l0.length : Int) / 8) : Int).toNat ≤ 281474976710656 then ((some (List.replicate (wrap64 ((l0.length : Int) / 8) : Int).toNat 0 : List Int)).bind fun y189 => (bakeref2_Packed.l0 k l0 y189 (wrap64 (8 * (y189.length : Int))) 0)) else (none)) else (none)
theorem bakeref2_Packed.mono_l : ∀ k, (∀ y0 y1 y2 y3, LeO (bakeref2_Packed.l0 k y0 y1 y2 y3) (bakeref2_Packed.l0 (k + 1) y0 y1 y2 y3))
  | 0 => fun _ _ _ _ r h => by simp [bakeref2_Packed.l0] at h
  | k + 1 => by
    have ih0 := bakeref2_Packed.mono_l k
    · intro y0 y1 y2 y3
      unfold bakeref2_Packed.l0
      repeat' first
      | (with_reducible exact ih0 _ _ _ _)
      | (with_reducible exact LeO.refl _)
      | (with_reducible exact LeO.none _)
      | (with_reducible refine LeO.ite ?_ ?_)
      | (with_reducible refine LeO.bind ?_ (fun _ => ?_))
      | exact ih0 _ _ _ _
      | exact LeO.none _
      | refine LeO.ite ?_ ?_
      | refine LeO.bind ?_ (fun _ => ?_)
theorem bakeref2_Packed.mono : ∀ a0 k, LeO (bakeref2_Packed.f k a0) (bakeref2_Packed.f (k + 1) a0) := by
  intro a0 k
  have ih0 := bakeref2_Packed.mono_l k
  unfold bakeref2_Packed.f
  repeat' first
      | (with_reducible exact ih0 _ _ _ _)
      | (with_reducible exact LeO.refl _)
      | (with_reducible exact LeO.none _)
      | (with_reducible refine LeO.ite ?_ ?_)
      | (with_reducible refine LeO.bind ?_ (fun _ => ?_))
      | exact ih0 _ _ _ _
      | exact LeO.none _
      | refine LeO.ite ?_ ?_
      | refine LeO.bind ?_ (fun _ => ?_)
def bakeref2_Packed.T6 : Bool × List (List Nat × List Nat) := (true, [([], []), ([], []), ([1], [1]), ([0, 2], [0, 2]), ([3], [3]), ([], []), ([5], [5]), ([6], [6]), ([4, 7], [4, 7]), ([0, 2, 0, 1, 2, 3, 4, 5, 6, 7, 8], [0, 2]), ([9, 8, 0, 1, 2, 3, 4, 5, 6, 7, 8], [8, 9])])
def bakeref2_Packed.B6 : List Nat := [0, 0, 2, 7, 15, 0, 32, 96, 255, 511, 1023]
theorem bakeref2_Packed.tab6 : rtab .any (opsOf Try.f98 6) = bakeref2_Packed.T6 := by kernel_rfl
theorem bakeref2_Packed.bits6 : waitsOk bakeref2_Packed.T6.2 bakeref2_Packed.B6 = true := by kernel_rfl
set_option maxHeartbeats 8000000 in
set_option maxRecDepth 100000 in
theorem bakeref2_Packed.calls (k : Nat) (A0 : Option Addr) (c0 : Nat) (l0 : List Bool) (r : List Int) (w : World) (hr0 : Kd.C Kd.bool w A0 l0.length l0) (hc0 : l0.length ≤ c0) (h : bakeref2_Packed.f k l0 = some r) :
    Calls Try.prog 98 #[.slice A0 l0.length c0] w fun e w' => ∃ v0_ : Value, e = .returned (v0_) ∧ Kd.R (Kd.int .u8) 5 w' w.heap.size (fun _ => True) v0_ r ∧ Below w.heap.size w w' := by
  have HR0 := Aside0.mk hr0
  have HC0 := Aside0.mk hc0
  clear hr0 hc0
  have HB := Aside0.mk (Below.refl w.heap.size w)
  have H : (if 0 ≤ (wrap64 ((l0.length : Int) / 8)) then (if (wrap64 ((l0.length : Int) / 8) : Int).toNat ≤ 281474976710656 then ((some (List.replicate (wrap64 ((l0.length : Int) / 8) : Int).toNat 0 : List Int)).bind fun y189 => (bakeref2_Packed.l0 k l0 y189 (wrap64 (8 * (y189.length : Int))) 0)) else (none)) else (none)) = some r := h
  clear h
  obtain ⟨ji2, hji2⟩ : ∃ j_ : Int, (wrap64 ((l0.length : Int) / 8)) = j_ := ⟨_, rfl⟩
  replace H : (if 0 ≤ (ji2) then (if (ji2 : Int).toNat ≤ 281474976710656 then ((some (List.replicate (ji2 : Int).toNat 0 : List Int)).bind fun y189 => (bakeref2_Packed.l0 k l0 y189 (wrap64 (8 * (y189.length : Int))) 0)) else (none)) else (none)) = some r := by first | (rw [hji2] at H; exact H) | (simp only [hji2] at H ⊢; exact H)
  have hji2w : (IntKind.i64.wrap ((l0.length : Int) / 8)) = ji2 := (i64_w _).trans hji2
  by_cases c3 : 0 ≤ (ji2)
  · rw [if_pos c3] at H
    have c3b0 := eq_true c3
    have c3b1 : decide (0 ≤ (ji2)) = true := decide_eq_true c3
    clear c3
    by_cases c4 : (ji2 : Int).toNat ≤ 281474976710656
    · rw [if_pos c4] at H
      have c4b0 := eq_true c4
      have c4b1 : decide ((ji2 : Int).toNat ≤ 281474976710656) = true := decide_eq_true c4
      clear c4
      obtain ⟨y189, hy189⟩ : ∃ y_ : List Int, y_ = (List.replicate (ji2 : Int).toNat 0) := ⟨_, rfl⟩
      replace H : (bakeref2_Packed.l0 k l0 y189 (wrap64 (8 * (y189.length : Int))) 0) = some r := by first | (rw [hy189]; with_reducible exact H) | (have H2_ := (Option.bind_some _ _).symm.trans H; rw [hy189]; with_reducible exact H2_) | (have H2_ := (Option.bind_some _ _).symm.trans H; with_reducible exact H2_) | with_reducible exact H | (rw [hy189]; exact H) | exact H
      have Ny189 := Aside0.mk hy189
      clear hy189
      have H' := Aside0.mk H
      clear H
      go_enter Try.func98, Try.ntmps98
      go_wp2_with (first | ((with_reducible refine gate_dst (N := 8) rfl ?_); refine Kd.R_make (Kd.int .u8) _ 5 rfl (N := 8) rfl 22 _ _ rfl ji2 rfl rfl Try.underlying22 (.int .u8 0) 1 info5 rfl (by decide) (by omega) 0 (ok := fun _ => True) (okp := fun _ => True) rfl (fun _ hk => hk) trivial (of_decide_eq_true (by first | (with_reducible assumption) | assumption)) (Nat.le_trans (Nat.mul_le_mul_right _ (of_decide_eq_true (by first | (with_reducible assumption) | assumption) : ji2.toNat ≤ 281474976710656)) (by omega)) (Below.refl _ _) (Nat.le_refl _) ?_; intro v190 w5 ho6 hb hg_ hnew_; clear hg_ hnew_; (first | rw [← Ny189.out] at ho6 | (simp only [Int.reduceToNat] at ho6; rw [← Ny189.out] at ho6)); have n0_ := Aside0.mk (Kd.R_lower ho6 (below_size (by repeat (first | (with_reducible first | exact HB.out | apply below_alloc | apply pw_below_drewN | apply below_drew1) | exact HB.out)))); have n1_ := Aside0.mk (below_step (by repeat (first | (with_reducible first | exact HB.out | apply below_alloc | apply pw_below_drewN | apply below_drew1) | exact HB.out)) hb); clear HB; have HO191 := n0_; have HB := n1_; clear n0_ n1_; clear hb ho6; obtain ⟨Ao7, co7, eo7⟩ := Kd.R_slice HO191.out; subst eo7))
      go_loopg [12] k (fun kq v12 w' => ∃ (x3_1 : List Int) (x12_1 : Int), v12 = .int .i64 x12_1 ∧ Aside0 (bakeref2_Packed.l0 kq l0 x3_1 (wrap64 (8 * (y189.length : Int))) x12_1 = some r) ∧ Aside0 (kq ≤ k) ∧ Aside0 (Kd.R (Kd.int .u8) 5 w' w.heap.size (fun _ => True) (.slice Ao7 y189.length co7) x3_1) ∧ Aside0 (Below w.heap.size w w'))
      case atStart => exact ⟨(y189), (0), (by first | rfl | (simp; done) | (simp [*]; done)), H', ⟨Nat.le_refl _⟩, ⟨by (with_reducible repeat (first | apply Kd.R_alloc | apply Kd.R_drewN | apply Kd.R_drew)); exact HO191.out⟩, ⟨by repeat (first | (with_reducible first | exact HB.out | apply below_alloc | apply pw_below_drewN | apply below_drew1) | exact HB.out)⟩⟩
      case round =>
        clear H'
        try clear p2
        try clear c3
        try clear c3b0
        try clear c3b1
        try clear c4
        try clear c4b0
        try clear c4b1
        try clear p6
        obtain ⟨x3_1, x12_1, rfl, HA, HK1, HO_3, HB⟩ := hrel
        have hl3_1 := (Kd.R_reads' HO_3.out).1
        rw [hl3_1] at HO_3
        (try simp only [hl3_1])
        cases gk with
        | zero => exact absurd HA.out (by simp [bakeref2_Packed.l0])
        | succ k1 =>
          have H := HA.out
          clear HA
          simp only [bakeref2_Packed.l0] at H
          by_cases c8 : x12_1 < (wrap64 (8 * (y189.length : Int)))
          · rw [if_pos c8] at H
            have c8b0 : decide (x12_1 < (wrap64 (8 * (y189.length : Int)))) = true := decide_eq_true c8
            (try simp only [hl3_1] at c8b0)
            clear c8
            by_cases c9 : 0 ≤ x12_1
            · rw [if_pos c9] at H
              have c9b0 : decide (0 ≤ x12_1) = true := decide_eq_true c9
              clear c9
              by_cases c10 : x12_1 < (l0.length : Int)
              · rw [if_pos c10] at H
                have c10b0 : decide (x12_1 < (l0.length : Int)) = true := decide_eq_true c10
                (try simp only [hl3_1] at c10b0)
                clear c10
                obtain ⟨bq11, hbq11⟩ : ∃ b_ : Bool, b_ = (rdOf false l0 x12_1) := ⟨_, rfl⟩
                replace H : (if bq11 = true then (if 0 ≤ (wrap64 (Int.tdiv x12_1 8)) then (if (wrap64 (Int.tdiv x12_1 8)) < (x3_1.length : Int) then (if 0 ≤ (Int.tmod x12_1 8) then (bakeref2_Packed.l0 k1 l0 (x3_1.set ((wrap64 (Int.tdiv x12_1 8)) : Int).toNat (Go.bits .or .u8 (rd x3_1 (wrap64 (Int.tdiv x12_1 8))) (shr .u8 128 (Int.tmod x12_1 8)))) (wrap64 (8 * (y189.length : Int))) (wrap64 (x12_1 + 1))) else (none)) else (none)) else (none)) else (bakeref2_Packed.l0 k1 l0 x3_1 (wrap64 (8 * (y189.length : Int))) (wrap64 (x12_1 + 1)))) = some r := by rw [← hbq11] at H; exact H
                have Nbq11 := Aside0.mk hbq11
                clear hbq11
                by_cases c12 : bq11 = true
                · subst c12
                  have H1 : (if 0 ≤ (wrap64 (Int.tdiv x12_1 8)) then (if (wrap64 (Int.tdiv x12_1 8)) < (x3_1.length : Int) then (if 0 ≤ (Int.tmod x12_1 8) then (bakeref2_Packed.l0 k1 l0 (x3_1.set ((wrap64 (Int.tdiv x12_1 8)) : Int).toNat (Go.bits .or .u8 (rd x3_1 (wrap64 (Int.tdiv x12_1 8))) (shr .u8 128 (Int.tmod x12_1 8)))) (wrap64 (8 * (y189.length : Int))) (wrap64 (x12_1 + 1))) else (none)) else (none)) else (none)) = some r := by rw [if_pos rfl] at H; exact H
                  clear H
                  have H := H1
                  clear H1
                  obtain ⟨ji13, hji13⟩ : ∃ j_ : Int, (wrap64 (Int.tdiv x12_1 8)) = j_ := ⟨_, rfl⟩
                  replace H : (if 0 ≤ (ji13) then (if (ji13) < (x3_1.length : Int) then (if 0 ≤ (Int.tmod x12_1 8) then (bakeref2_Packed.l0 k1 l0 (x3_1.set ((ji13) : Int).toNat (Go.bits .or .u8 (rd x3_1 (ji13)) (shr .u8 128 (Int.tmod x12_1 8)))) (wrap64 (8 * (y189.length : Int))) (wrap64 (x12_1 + 1))) else (none)) else (none)) else (none)) = some r := by first | (rw [hji13] at H; exact H) | (simp only [hji13] at H ⊢; exact H)
                  have hji13w : (IntKind.i64.wrap (Int.tdiv x12_1 8)) = ji13 := (i64_w _).trans hji13
                  by_cases c14 : 0 ≤ (ji13)
                  · rw [if_pos c14] at H
                    have c14b0 : decide (0 ≤ (ji13)) = true := decide_eq_true c14
                    clear c14
                    by_cases c15 : (ji13) < (x3_1.length : Int)
                    · rw [if_pos c15] at H
                      have c15b0 : decide ((ji13) < (x3_1.length : Int)) = true := decide_eq_true c15
                      (try simp only [hl3_1] at c15b0)
                      clear c15
                      obtain ⟨ji16, hji16⟩ : ∃ j_ : Int, (Int.tmod x12_1 8) = j_ := ⟨_, rfl⟩
                      replace H : (if 0 ≤ (ji16) then (bakeref2_Packed.l0 k1 l0 (x3_1.set ((ji13) : Int).toNat (Go.bits .or .u8 (rd x3_1 (ji13)) (shr .u8 128 (ji16)))) (wrap64 (8 * (y189.length : Int))) (wrap64 (x12_1 + 1))) else (none)) = some r := by first | (rw [hji16] at H; exact H) | (simp only [hji16] at H ⊢; exact H)
                      by_cases c17 : 0 ≤ (ji16)
                      · rw [if_pos c17] at H
                        have c17b0 := eq_true c17
                        have c17b1 : decide (0 ≤ (ji16)) = true := decide_eq_true c17
                        clear c17
                        obtain ⟨ji18, hji18⟩ : ∃ j_ : Int, (shr .u8 128 (ji16)) = j_ := ⟨_, rfl⟩
                        replace H : (bakeref2_Packed.l0 k1 l0 (x3_1.set ((ji13) : Int).toNat (Go.bits .or .u8 (rd x3_1 (ji13)) (ji18))) (wrap64 (8 * (y189.length : Int))) (wrap64 (x12_1 + 1))) = some r := by first | (rw [hji18] at H; exact H) | (simp only [hji18] at H ⊢; exact H)
                        have hji18_ : (128 / 2 ^ min (ji16).toNat 8) = ji18 := hji18
                        have hji18z : (ji16) ≤ 8 → (128 / 2 ^ (ji16).toNat) = ji18 := shr_small hji18
                        obtain ⟨y194, hy194⟩ : ∃ y_ : List Int, y_ = (x3_1.set ((ji13) : Int).toNat (Go.bits .or .u8 (rd x3_1 (ji13)) (ji18))) := ⟨_, rfl⟩
                        replace H : (bakeref2_Packed.l0 k1 l0 y194 (wrap64 (8 * (y189.length : Int))) (wrap64 (x12_1 + 1))) = some r := by first | (rw [hy194]; with_reducible exact H) | (have H2_ := (Option.bind_some _ _).symm.trans H; rw [hy194]; with_reducible exact H2_) | (have H2_ := (Option.bind_some _ _).symm.trans H; with_reducible exact H2_) | with_reducible exact H | (rw [hy194]; exact H) | exact H
                        have Ny194 := Aside0.mk hy194
                        clear hy194
                        have H' := Aside0.mk H
                        clear H
                        have p192 : 0 ≤ (x12_1 : Int) := of_decide_eq_true (by first | (with_reducible assumption) | assumption)
                        have q192 : x12_1 < (l0.length : Int) := of_decide_eq_true (by first | (with_reducible assumption) | assumption)
                        obtain ⟨ad192, e192, hx192_0⟩ := Kd.at_bool HR0.out x12_1 p192 q192
                        (try rw [← Nbq11.out] at hx192_0)
                        cases e192
                        replace hx192_0 := (HB.out.cell (World.block_lt_of_cell? w _ hx192_0)).trans hx192_0
                        replace p192 := eq_true p192
                        replace q192 := eq_true q192
                        try go_wp2
                        have n0_ := Aside0.mk (Kd.R_drew HO_3.out)
                        have n1_ := Aside0.mk (below_drew1 HB.out)
                        clear HO_3
                        clear HB
                        have HO_3 := n0_
                        have HB := n1_
                        clear n0_ n1_
                        have p193 : 0 ≤ ((ji13) : Int) := of_decide_eq_true (by first | (with_reducible assumption) | assumption)
                        have q193 : (ji13) < (x3_1.length : Int) := of_decide_eq_true (by first | (with_reducible assumption) | assumption)
                        obtain ⟨ad193, e193, hx193_0⟩ := Kd.at_int (Kd.R_reads' HO_3.out).2.2 (ji13) p193 q193
                        cases e193
                        replace p193 := eq_true p193
                        replace q193 := eq_true q193
                        have p19 : 0 ≤ ((ji13) : Int) := of_decide_eq_true (by first | (with_reducible assumption) | assumption)
                        have q19 : ((ji13) : Int) < ((x3_1.length : Int) : Int) := of_decide_eq_true (by first | (with_reducible assumption) | assumption)
                        obtain ⟨go19, co19, eo19, gb19, gl19, cl19, HG19⟩ := Kd.R_form HO_3.out (by omega)
                        (first | cases eo19 | (injection eo19 with ea_ en_ ec_; (first | subst ea_ | (injection ea_ with ea_; subst ea_)); subst ec_; clear en_))
                        have GB19 := Aside0.mk gb19
                        have GG19 := Aside0.mk HG19
                        clear gb19 gl19 HG19
                        (first | simp only [add_plain] at hx193_0 | skip)
                        obtain ⟨hx19_0, hf19_0⟩ := Kd.R_celln 0 HO_3.out ((ji13) : Int) p19 q19
                        replace p19 := eq_true p19
                        replace q19 := eq_true q19
                        have HP21 := Kd.R_putn HO_3.out ((ji13) : Int) (Go.bits .or .u8 (rd x3_1 (ji13)) (ji18))
                        rw [← Ny194.out] at HP21
                        have HQ21 := Aside0.mk HP21
                        clear HP21
                        refine start_ (n := 11) (S := fun w' => w'.cell? ⟨go19, ((ji13)).toNat, none⟩ = some (.int .u8 (rd x3_1 (ji13)))) (ds := [10]) #[false, false, false, false, false, false, false, false, false, false, false] (by kernel_rfl) rfl rfl (hx193_0) (fun hHeld => ?_); refine with_tabW bakeref2_Packed.tab6 bakeref2_Packed.bits6 (fun HT_ HW_ => ?_)
                        generalize wr.drew = w20 at HO_3 HB GG19 HQ21 hf19_0 hx193_0 hx19_0 hHeld ⊢
                        refine pure_ (i := 0) (N := some 19) (v := ?_) (a' := ?_) #[true, false, false, false, false, false, false, false, false, false, false] rfl rfl (any_of HT_.out (by kernel_rfl)) (fun _ _ _ h => h) (Or.inl ⟨by rfl, ?_⟩) ?_ ?_
                        rotate_left
                        · intro w'
                          go_simp
                          with_reducible rfl
                        rotate_left
                        · simp only [Act.put, List.setIfInBounds_toArray, List.set_cons_zero, List.set_cons_succ, i64_w, i32_w]
                          rfl
                        refine pure_ (i := 1) (N := some 20) (v := ?_) (a' := ?_) #[true, true, false, false, false, false, false, false, false, false, false] rfl rfl (any_of HT_.out (by kernel_rfl)) (fun _ _ _ h => h) (Or.inl ⟨by rfl, ?_⟩) ?_ ?_
                        rotate_left
                        · intro w'
                          go_simp
                          with_reducible rfl
                        rotate_left
                        · simp only [Act.put, List.setIfInBounds_toArray, List.set_cons_zero, List.set_cons_succ, i64_w, i32_w]
                          rfl
                        refine pure_ (i := 2) (N := some 21) (v := ?_) (a' := ?_) #[true, true, true, false, false, false, false, false, false, false, false] rfl rfl (any_of HT_.out (by kernel_rfl)) (fun _ _ _ h => h) (Or.inl ⟨by rfl, ?_⟩) ?_ ?_
                        rotate_left
                        · intro w'
                          go_simp
                          with_reducible rfl
                        rotate_left
                        · simp only [Act.put, List.setIfInBounds_toArray, List.set_cons_zero, List.set_cons_succ, i64_w, i32_w]
                          rfl
                        refine pure_ (i := 3) (N := some 22) (v := ?_) (a' := ?_) #[true, true, true, true, false, false, false, false, false, false, false] rfl rfl (any_of HT_.out (by kernel_rfl)) (fun _ _ _ h => h) (Or.inl ⟨by rfl, ?_⟩) ?_ ?_
                        rotate_left
                        · intro w'
                          go_simp
                          with_reducible rfl
                        rotate_left
                        · simp only [Act.put, List.setIfInBounds_toArray, List.set_cons_zero, List.set_cons_succ, i64_w, i32_w]
                          rfl
                        refine pure_ (i := 5) (N := some 24) (v := ?_) (a' := ?_) #[true, true, true, true, false, true, false, false, false, false, false] rfl rfl (any_of HT_.out (by kernel_rfl)) (fun _ _ _ h => h) (Or.inl ⟨by rfl, ?_⟩) ?_ ?_
                        rotate_left
                        · intro w'
                          go_simp
                          with_reducible rfl
                        rotate_left
                        · simp only [Act.put, List.setIfInBounds_toArray, List.set_cons_zero, List.set_cons_succ, i64_w, i32_w]
                          rfl
                        refine pure_ (i := 6) (N := some 25) (v := ?_) (a' := ?_) #[true, true, true, true, false, true, true, false, false, false, false] rfl rfl (any_of HT_.out (by kernel_rfl)) (fun _ _ _ h => h) (Or.inl ⟨by rfl, ?_⟩) ?_ ?_
                        rotate_left
                        · intro w'
                          go_simp
                          with_reducible rfl
                        rotate_left
                        · simp only [Act.put, List.setIfInBounds_toArray, List.set_cons_zero, List.set_cons_succ, i64_w, i32_w]
                          rfl
                        refine pure_ (i := 7) (N := some 26) (v := ?_) (a' := ?_) #[true, true, true, true, false, true, true, true, false, false, false] rfl rfl (any_of HT_.out (by kernel_rfl)) (fun _ _ _ h => h) (Or.inl ⟨by rfl, ?_⟩) ?_ ?_
                        rotate_left
                        · intro w'
                          go_simp
                          with_reducible rfl
                        rotate_left
                        · simp only [Act.put, List.setIfInBounds_toArray, List.set_cons_zero, List.set_cons_succ, i64_w, i32_w]
                          rfl
                        refine take_ (i := 4) (N := some 23) (v := ?_) (a' := ?_) #[true, true, true, true, true, true, true, true, false, false, false] rfl rfl (take_ofW HT_.out HW_.out (by kernel_rfl)) (fun _ _ _ h => h) (Or.inl ⟨by rfl, ?_⟩) hHeld ?_ ?_
                        rotate_left
                        · intro w' s0
                          go_simp
                          with_reducible rfl
                        rotate_left
                        · simp only [Act.put, List.setIfInBounds_toArray, List.set_cons_zero, List.set_cons_succ, i64_w, i32_w]
                          rfl
                        refine pure_ (i := 8) (N := some 27) (v := ?_) (a' := ?_) #[true, true, true, true, true, true, true, true, true, false, false] rfl rfl (any_of HT_.out (by kernel_rfl)) (fun _ _ _ h => h) (Or.inl ⟨by rfl, ?_⟩) ?_ ?_
                        rotate_left
                        · intro w'
                          go_simp
                          with_reducible rfl
                        rotate_left
                        · simp only [Act.put, List.setIfInBounds_toArray, List.set_cons_zero, List.set_cons_succ, i64_w, i32_w]
                          rfl
                        refine pure_ (i := 9) (N := some 28) (v := ?_) (a' := ?_) #[true, true, true, true, true, true, true, true, true, true, false] rfl rfl (any_of HT_.out (by kernel_rfl)) (fun _ _ _ h => h) (Or.inl ⟨by rfl, ?_⟩) ?_ ?_
                        rotate_left
                        · intro w'
                          go_simp
                          with_reducible rfl
                        rotate_left
                        · simp only [Act.put, List.setIfInBounds_toArray, List.set_cons_zero, List.set_cons_succ, i64_w, i32_w]
                          rfl
                        refine last_ (i := 10) (N := none) #[true, true, true, true, true, true, true, true, true, true, true] rfl rfl (one_of HT_.out (by kernel_rfl)) (by decide) (fun K hK => ?_)
                        refine skip_ (w1 := ?_) (by rfl) rfl ?_ ?_
                        rotate_left
                        · go_simp
                          rfl
                        refine hK.out _ _ ?_
                        clear hK K
                        refine done_ (done_of HT_.out (by kernel_rfl)) ?_
                        try go_wp2
                        (try simp only [← hl3_1])
                        go_roundg k1
                        case measure => have := HK1.out; omega
                        case rel => exact ⟨(y194), (wrap64 (x12_1 + 1)), (by first | rfl | (simp; done) | (simp [*]; done)), H', ⟨by have := HK1.out; omega⟩, ⟨by (try simp only [hl3_1]); (with_reducible repeat (first | apply Kd.R_alloc | apply Kd.R_drewN | apply Kd.R_drew)); exact HQ21.out⟩, ⟨by repeat (first | (with_reducible first | exact HB.out | apply below_alloc | apply pw_below_drewN | apply below_drew1 | refine below_set ?_ GB19.out) | exact HB.out)⟩⟩
                      · rw [if_neg c17] at H
                        exact absurd H (by simp)
                    · rw [if_neg c15] at H
                      exact absurd H (by simp)
                  · rw [if_neg c14] at H
                    exact absurd H (by simp)
                · replace c12 := Bool.eq_false_iff.mpr c12
                  subst c12
                  have H1 : (bakeref2_Packed.l0 k1 l0 x3_1 (wrap64 (8 * (y189.length : Int))) (wrap64 (x12_1 + 1))) = some r := by rw [if_neg (show ¬ (false = true) by decide)] at H; exact H
                  clear H
                  have H := H1
                  clear H1
                  have H' := Aside0.mk H
                  clear H
                  have p192 : 0 ≤ (x12_1 : Int) := of_decide_eq_true (by first | (with_reducible assumption) | assumption)
                  have q192 : x12_1 < (l0.length : Int) := of_decide_eq_true (by first | (with_reducible assumption) | assumption)
                  obtain ⟨ad192, e192, hx192_0⟩ := Kd.at_bool HR0.out x12_1 p192 q192
                  (try rw [← Nbq11.out] at hx192_0)
                  cases e192
                  replace hx192_0 := (HB.out.cell (World.block_lt_of_cell? w _ hx192_0)).trans hx192_0
                  replace p192 := eq_true p192
                  replace q192 := eq_true q192
                  go_wp2
                  (try simp only [← hl3_1])
                  go_roundg k1
                  case measure => have := HK1.out; omega
                  case rel => exact ⟨(x3_1), (wrap64 (x12_1 + 1)), (by first | rfl | (simp; done) | (simp [*]; done)), H', ⟨by have := HK1.out; omega⟩, ⟨by (try simp only [hl3_1]); (with_reducible repeat (first | apply Kd.R_alloc | apply Kd.R_drewN | apply Kd.R_drew)); exact HO_3.out⟩, ⟨by repeat (first | (with_reducible first | exact HB.out | apply below_alloc | apply pw_below_drewN | apply below_drew1) | exact HB.out)⟩⟩
              · rw [if_neg c10] at H
                exact absurd H (by simp)
            · rw [if_neg c9] at H
              exact absurd H (by simp)
          · rw [if_neg c8] at H
            have c8b0 : decide (x12_1 < (wrap64 (8 * (y189.length : Int)))) = false := decide_eq_false c8
            (try simp only [hl3_1] at c8b0)
            clear c8
            obtain rfl := Option.some.inj H
            go_wp2
            go_ret
            exact ⟨_, by first | rfl | (simp [errW_none, errW_some] <;> rfl) | (simp only [← hji2]; first | rfl | (simp [errW_none, errW_some] <;> rfl)) | (simp [*, errW_none, errW_some] <;> rfl), by (with_reducible repeat (first | apply Kd.R_alloc | apply Kd.R_drewN | apply Kd.R_drew)); exact HO_3.out, by repeat (first | (with_reducible first | exact HB.out | apply below_alloc | apply pw_below_drewN | apply below_drew1) | exact HB.out)⟩
    · rw [if_neg c4] at H
      exact absurd H (by simp)
  · rw [if_neg c3] at H
    exact absurd H (by simp)

end Go.Proofs.Ytgiodeiibmbhhaa.PFmWrites
