-- Written by this session's own program (wip/mp, over the kit's print) for this claim; Lean checks it.
import Derived.Test.YtgiodeiibmbhhaaPWeakReadsx0
import Derived.Test.YtgiodeiibmbhhaaPWeakReadsx1
namespace Go.Proofs.Ytgiodeiibmbhhaa.PWeakReads
open Go.RowKit Go.Proofs.YtgiodeiibmbhhaaW.PrintWords Go.Proofs.YtgiodeiibmbhhaaW.PrintLast Go.Proofs.YtgiodeiibmbhhaaW.PrintMore
attribute [local go_sem] max2_int min2_int max_two min_two max_three min_three max_four min_four   -- for this text's walks alone
set_option linter.unusedVariables false
set_option linter.unusedSimpArgs false

/-! ### weak_Check: function 58 -/
mutual
def weak_Check.l0 : Nat → Int → List (S122) → Int → Int → List Int → List (S122) → Option (Int)
  | 0, _, _, _, _, _, _ => none
  | k + 1, x4, x18, x19, x20, x114000, x114001 => if x20 < x19 then (if 0 ≤ x20 then (if x20 < (x18.length : Int) then (if ((rd_T122 x18 x20).f0) < x4 then (weak_Check.j1 k x18 x19 x20 true x114000 x114001 ((rd_T122 x18 x20).f0) ((rd_T122 x18 x20).f1) ((rd_T122 x18 x20).f2)) else (if ((rd_T122 x18 x20).f0) > ((rd_T122 x18 x20).f1) then (weak_Check.j1 k x18 x19 x20 true x114000 x114001 ((rd_T122 x18 x20).f0) ((rd_T122 x18 x20).f1) ((rd_T122 x18 x20).f2)) else (weak_Check.j1 k x18 x19 x20 (decide (((rd_T122 x18 x20).f1) > (x114000.length : Int))) x114000 x114001 ((rd_T122 x18 x20).f0) ((rd_T122 x18 x20).f1) ((rd_T122 x18 x20).f2)))) else (none)) else (none)) else (some 0)
def weak_Check.j1 : Nat → List (S122) → Int → Int → Bool → List Int → List (S122) → Int → Int → Int → Option (Int)
  | 0, _, _, _, _, _, _, _, _, _ => none
  | k + 1, x18, x19, x20, x42, x114000, x114001, x117000, x117001, x117002 => if x42 = true then (some 9) else (if x117002 < 0 then (some 1) else (if x117002 > 100000 then (some 1) else (weak_Check.l0 k x117001 x18 x19 (wrap64 (x20 + 1)) x114000 x114001)))
end
def weak_Check.f (k : Nat) (l0_0 : List Int) (l0_1 : List (S122)) : Option (Int) := (flux_Check.f k l0_0).bind fun t114 => (if t114 = 0 then (if (l0_1.length : Int) > 32 then (some 2) else (weak_Check.l0 k 0 l0_1 (l0_1.length : Int) 0 l0_0 l0_1)) else (some t114))
theorem weak_Check.mono_l : ∀ k, (∀ y0 y1 y2 y3 y4 y5, LeO (weak_Check.l0 k y0 y1 y2 y3 y4 y5) (weak_Check.l0 (k + 1) y0 y1 y2 y3 y4 y5)) ∧ (∀ y0 y1 y2 y3 y4 y5 y6 y7 y8, LeO (weak_Check.j1 k y0 y1 y2 y3 y4 y5 y6 y7 y8) (weak_Check.j1 (k + 1) y0 y1 y2 y3 y4 y5 y6 y7 y8))
  | 0 => ⟨fun _ _ _ _ _ _ r h => by simp [weak_Check.l0] at h, fun _ _ _ _ _ _ _ _ _ r h => by simp [weak_Check.j1] at h⟩
  | k + 1 => by
    obtain ⟨ih0, ih1⟩ := weak_Check.mono_l k
    refine ⟨?_, ?_⟩
    · intro y0 y1 y2 y3 y4 y5
      unfold weak_Check.l0
      repeat' first
      | (with_reducible exact ih0 _ _ _ _ _ _)
      | (with_reducible exact ih1 _ _ _ _ _ _ _ _ _)
      | (with_reducible exact flux_Check.mono _ _)
      | (with_reducible exact LeO.refl _)
      | (with_reducible exact LeO.none _)
      | (with_reducible refine LeO.ite ?_ ?_)
      | (with_reducible refine LeO.bind ?_ (fun _ => ?_))
      | exact ih0 _ _ _ _ _ _
      | exact ih1 _ _ _ _ _ _ _ _ _
      | exact flux_Check.mono _ _
      | exact LeO.none _
      | refine LeO.ite ?_ ?_
      | refine LeO.bind ?_ (fun _ => ?_)
    · intro y0 y1 y2 y3 y4 y5 y6 y7 y8
      unfold weak_Check.j1
      repeat' first
      | (with_reducible exact ih0 _ _ _ _ _ _)
      | (with_reducible exact ih1 _ _ _ _ _ _ _ _ _)
      | (with_reducible exact flux_Check.mono _ _)
      | (with_reducible exact LeO.refl _)
      | (with_reducible exact LeO.none _)
      | (with_reducible refine LeO.ite ?_ ?_)
      | (with_reducible refine LeO.bind ?_ (fun _ => ?_))
      | exact ih0 _ _ _ _ _ _
      | exact ih1 _ _ _ _ _ _ _ _ _
      | exact flux_Check.mono _ _
      | exact LeO.none _
      | refine LeO.ite ?_ ?_
      | refine LeO.bind ?_ (fun _ => ?_)
theorem weak_Check.mono : ∀ a0 a1 k, LeO (weak_Check.f k a0 a1) (weak_Check.f (k + 1) a0 a1) := by
  intro a0 a1 k
  obtain ⟨ih0, ih1⟩ := weak_Check.mono_l k
  unfold weak_Check.f
  repeat' first
      | (with_reducible exact ih0 _ _ _ _ _ _)
      | (with_reducible exact ih1 _ _ _ _ _ _ _ _ _)
      | (with_reducible exact flux_Check.mono _ _)
      | (with_reducible exact LeO.refl _)
      | (with_reducible exact LeO.none _)
      | (with_reducible refine LeO.ite ?_ ?_)
      | (with_reducible refine LeO.bind ?_ (fun _ => ?_))
      | exact ih0 _ _ _ _ _ _
      | exact ih1 _ _ _ _ _ _ _ _ _
      | exact flux_Check.mono _ _
      | exact LeO.none _
      | refine LeO.ite ?_ ?_
      | refine LeO.bind ?_ (fun _ => ?_)
set_option maxHeartbeats 8000000 in
set_option maxRecDepth 100000 in
theorem weak_Check.calls (k : Nat) (A0_0 : Option Addr) (c0_0 : Nat) (l0_0 : List Int) (A0_1 : Option Addr) (c0_1 : Nat) (l0_1 : List (S122)) (r : Int) (w : World) (hr0_0 : Kd.C (Kd.int .i64) w A0_0 l0_0.length l0_0) (hc0_0 : l0_0.length ≤ c0_0) (hr0_1 : Kd.C k122 w A0_1 l0_1.length l0_1) (hc0_1 : l0_1.length ≤ c0_1) (h : weak_Check.f k l0_0 l0_1 = some r) :
    Calls Try.prog 58 #[.agg #[.slice A0_0 l0_0.length c0_0, .slice A0_1 l0_1.length c0_1]] w fun e w' => e = .returned (.int .i64 r) ∧ Below w.heap.size w w' := by
  have hu73 := Try.underlying73
  have hu122 := Try.underlying122
  have HR0_0 := Aside0.mk hr0_0
  have HC0_0 := Aside0.mk hc0_0
  clear hr0_0 hc0_0
  have HR0_1 := Aside0.mk hr0_1
  have HC0_1 := Aside0.mk hc0_1
  clear hr0_1 hc0_1
  have HB := Aside0.mk (Below.refl w.heap.size w)
  have H : ((flux_Check.f k l0_0).bind fun t114 => (if t114 = 0 then (if (l0_1.length : Int) > 32 then (some 2) else (weak_Check.l0 k 0 l0_1 (l0_1.length : Int) 0 l0_0 l0_1)) else (some t114))) = some r := h
  clear h
  replace H := Option.bind_eq_some_iff.mp H
  obtain ⟨t114, A20, H⟩ := H
  replace H : (if t114 = 0 then (if (l0_1.length : Int) > 32 then (some 2) else (weak_Check.l0 k 0 l0_1 (l0_1.length : Int) 0 l0_0 l0_1)) else (some t114)) = some r := H
  have A2 := Aside0.mk A20
  clear A20
  by_cases c3 : t114 = 0
  · rw [if_pos c3] at H
    have c3b0 : (t114 == 0) = true := beq_iff_eq.mpr c3
    have c3b1 : (t114 != 0) = false := bne_eq_false_iff_eq.mpr c3
    clear c3
    by_cases c4 : (l0_1.length : Int) > 32
    · rw [if_pos c4] at H
      have c4b0 : decide (32 < (l0_1.length : Int)) = true := decide_eq_true c4
      have c4b1 : decide (32 < l0_1.length) = true := decide_eq_true (by omega)
      clear c4
      obtain rfl := Option.some.inj H
      go_enter Try.func58, Try.ntmps58
      go_wp2_with (first | ((with_reducible refine gate_dst (N := 1) rfl ?_); (try (refine gate_guard (by rfl) ?_; dsimp only)); refine box_event ?hg (N := 1) ?hd (cs := #[.slice A0_0 l0_0.length c0_0, .slice A0_1 l0_1.length c0_1]) (t := 73) ?hr ?_; (case hd => rfl); (case hg => rfl); (case hr => first | (go_simp; done) | (go_simp; rfl)); intro gb113 hg w5 hbox hb; have n0_ := Aside0.mk (below_step (by repeat (first | (with_reducible first | exact HB.out | apply below_alloc | apply pw_below_drewN | apply below_drew1) | exact HB.out)) hb); have n1_ := Aside0.mk (hbox); have n2_ := Aside0.mk ((by rw [hg]; exact (below_size (by repeat (first | (with_reducible first | exact HB.out | apply below_alloc | apply pw_below_drewN | apply below_drew1) | exact HB.out))) : w.heap.size ≤ gb113)); have n3_ := Aside0.mk ((by rw [hg]; exact (below_size (by repeat (first | (with_reducible first | exact HB.out | apply below_alloc | apply pw_below_drewN | apply below_drew1) | exact HB.out))) : w.heap.size ≤ gb113)); clear HB; have HB := n0_; have BK113 := n1_; have GW113 := n2_; have GE113 := n3_; clear n0_ n1_ n2_ n3_; clear hb hbox hg; have hcz6_0 : w5.cell? ⟨gb113, 0, none⟩ = some (.slice A0_0 l0_0.length c0_0) := (blk_cell BK113.out 0).trans rfl; have hcz6_1 : w5.cell? ⟨gb113, 1, none⟩ = some (.slice A0_1 l0_1.length c0_1) := (blk_cell BK113.out 1).trans rfl; have hfz6_0 := blk_frozen BK113.out 0; have hfz6_1 := blk_frozen BK113.out 1) | ((with_reducible refine gate_callee (f := 31) rfl ?_); refine goesL_ (some 9) rfl rfl Try.func31 (by kernel_rfl) rfl #[.slice A0_0 l0_0.length c0_0] rfl (by (try simp only [List.map_toArray, List.map_cons, List.map_nil]); first | done | rfl | (simp only [List.length_drop, List.length_take]; rfl)) ?_; (with_reducible refine (flux_Check.calls k _ _ l0_0 t114 _ ?side1 ?side2 A2.out).mono ?_); (case side1 => repeat (first | exact (Kd.C_below HR0_0.out HB.out) | (with_reducible refine Kd.C_alloc ?_ _) | (with_reducible refine Kd.C_drewN ?_ _) | (with_reducible refine Kd.C_drew ?_))); (case side2 => exact HC0_0.out); rintro e w' ⟨rfl, ⟨nd, rfl⟩⟩; refine ⟨_, rfl, ?_⟩))
      go_ret
      exact ⟨by first | rfl | (simp [errW_none, errW_some] <;> rfl) | (simp [*, errW_none, errW_some] <;> rfl), by repeat (first | (with_reducible first | exact HB.out | apply below_alloc | apply pw_below_drewN | apply below_drew1 | refine below_set ?_ GE113.out) | exact HB.out)⟩
    · rw [if_neg c4] at H
      have c4b0 : decide (32 < (l0_1.length : Int)) = false := decide_eq_false c4
      have c4b1 : decide (32 < l0_1.length) = false := decide_eq_false (by omega)
      clear c4
      have H' := Aside0.mk H
      clear H
      go_enter Try.func58, Try.ntmps58
      go_wp2_with (first | ((with_reducible refine gate_dst (N := 1) rfl ?_); (try (refine gate_guard (by rfl) ?_; dsimp only)); refine box_event ?hg (N := 1) ?hd (cs := #[.slice A0_0 l0_0.length c0_0, .slice A0_1 l0_1.length c0_1]) (t := 73) ?hr ?_; (case hd => rfl); (case hg => rfl); (case hr => first | (go_simp; done) | (go_simp; rfl)); intro gb113 hg w7 hbox hb; have n0_ := Aside0.mk (below_step (by repeat (first | (with_reducible first | exact HB.out | apply below_alloc | apply pw_below_drewN | apply below_drew1) | exact HB.out)) hb); have n1_ := Aside0.mk (hbox); have n2_ := Aside0.mk ((by rw [hg]; exact (below_size (by repeat (first | (with_reducible first | exact HB.out | apply below_alloc | apply pw_below_drewN | apply below_drew1) | exact HB.out))) : w.heap.size ≤ gb113)); have n3_ := Aside0.mk ((by rw [hg]; exact (below_size (by repeat (first | (with_reducible first | exact HB.out | apply below_alloc | apply pw_below_drewN | apply below_drew1) | exact HB.out))) : w.heap.size ≤ gb113)); clear HB; have HB := n0_; have BK113 := n1_; have GW113 := n2_; have GE113 := n3_; clear n0_ n1_ n2_ n3_; clear hb hbox hg; have hcz8_0 : w7.cell? ⟨gb113, 0, none⟩ = some (.slice A0_0 l0_0.length c0_0) := (blk_cell BK113.out 0).trans rfl; have hcz8_1 : w7.cell? ⟨gb113, 1, none⟩ = some (.slice A0_1 l0_1.length c0_1) := (blk_cell BK113.out 1).trans rfl; have hfz8_0 := blk_frozen BK113.out 0; have hfz8_1 := blk_frozen BK113.out 1) | ((with_reducible refine gate_callee (f := 31) rfl ?_); refine goesL_ (some 9) rfl rfl Try.func31 (by kernel_rfl) rfl #[.slice A0_0 l0_0.length c0_0] rfl (by (try simp only [List.map_toArray, List.map_cons, List.map_nil]); first | done | rfl | (simp only [List.length_drop, List.length_take]; rfl)) ?_; (with_reducible refine (flux_Check.calls k _ _ l0_0 t114 _ ?side1 ?side2 A2.out).mono ?_); (case side1 => repeat (first | exact (Kd.C_below HR0_0.out HB.out) | (with_reducible refine Kd.C_alloc ?_ _) | (with_reducible refine Kd.C_drewN ?_ _) | (with_reducible refine Kd.C_drew ?_))); (case side2 => exact HC0_0.out); rintro e w' ⟨rfl, ⟨nd, rfl⟩⟩; refine ⟨_, rfl, ?_⟩))
      go_loopg [4, 20] k (fun kq v4 v20 w' => ∃ (x4_1 : Int) (x20_1 : Int), v4 = .int .i64 x4_1 ∧ v20 = .int .i64 x20_1 ∧ Aside0 (weak_Check.l0 kq x4_1 l0_1 (l0_1.length : Int) x20_1 l0_0 l0_1 = some r) ∧ Aside0 (kq ≤ k) ∧ Aside0 (w'.heap[gb113]? = some (.cells #[(.slice A0_0 l0_0.length c0_0), (.slice A0_1 l0_1.length c0_1)] 73 (0, 0))) ∧ Aside0 (Below w.heap.size w w'))
      case atStart => exact ⟨(0), (0), (by first | rfl | (simp; done) | (simp [*]; done)), (by first | rfl | (simp; done) | (simp [*]; done)), H', ⟨Nat.le_refl _⟩, ⟨by (with_reducible repeat (first | refine blk_drewN ?_ _ | refine blk_drew ?_ | refine blk_alloc ?_ _)); exact BK113.out⟩, ⟨by repeat (first | (with_reducible first | exact HB.out | apply below_alloc | apply pw_below_drewN | apply below_drew1 | refine below_set ?_ GE113.out) | exact HB.out)⟩⟩
      case round =>
        clear H'
        try clear p2
        try clear c3
        try clear c3b0
        try clear c3b1
        try clear c4
        try clear c4b0
        try clear c4b1
        try clear c5
        try clear hcz6_0
        try clear hcz6_1
        try clear hcz8_0
        try clear hcz8_1
        try clear hfz6_0
        try clear hfz6_1
        try clear hfz8_0
        try clear hfz8_1
        obtain ⟨x4_1, x20_1, rfl, rfl, HA, HK1, BK113, HB⟩ := hrel
        cases gk with
        | zero => exact absurd HA.out (by simp [weak_Check.l0])
        | succ k1 =>
          have H := HA.out
          clear HA
          simp only [weak_Check.l0] at H
          by_cases c9 : x20_1 < (l0_1.length : Int)
          · rw [if_pos c9] at H
            have c9b0 : decide (x20_1 < (l0_1.length : Int)) = true := decide_eq_true c9
            clear c9
            by_cases c10 : 0 ≤ x20_1
            · rw [if_pos c10] at H
              have c10b0 : decide (0 ≤ x20_1) = true := decide_eq_true c10
              clear c10
              by_cases c11 : x20_1 < (l0_1.length : Int)
              · rw [if_pos c11] at H
                have c11b0 : decide (x20_1 < (l0_1.length : Int)) = true := decide_eq_true c11
                clear c11
                have HC12 := Aside0.mk H
                clear H
                have p115 : 0 ≤ (x20_1 : Int) := of_decide_eq_true (by first | (with_reducible assumption) | assumption)
                have q115 : x20_1 < (l0_1.length : Int) := of_decide_eq_true (by first | (with_reducible assumption) | assumption)
                obtain ⟨ad115, e115, hx115_0, hx115_1, hx115_2⟩ := at_T122 HR0_1.out x20_1 p115 q115
                cases e115
                replace hx115_0 := (HB.out.cell (World.block_lt_of_cell? w _ hx115_0)).trans hx115_0
                replace hx115_1 := (HB.out.cell (World.block_lt_of_cell? w _ hx115_1)).trans hx115_1
                replace hx115_2 := (HB.out.cell (World.block_lt_of_cell? w _ hx115_2)).trans hx115_2
                replace p115 := eq_true p115
                replace q115 := eq_true q115
                go_upto_region 10 with (first | ((with_reducible refine gate_dst (N := 6) rfl ?_); (try (refine gate_guard (by rfl) ?_; dsimp only)); refine box_event ?hg (N := 6) ?hd (cs := #[.int .i64 0, .int .i64 0, .int .i64 0]) (t := 122) ?hr ?_; (case hd => rfl); (case hg => rfl); (case hr => first | (go_simp; done) | (go_simp; rfl)); intro gb116 hg w13 hbox hb; have n0_ := Aside0.mk (blk_below (g := gb113) (o := .cells #[.slice A0_0 l0_0.length c0_0, .slice (some ad115) l0_1.length c0_1] 73 (0, 0)) (by (with_reducible repeat (first | refine blk_drewN ?_ _ | refine blk_drew ?_ | refine blk_alloc ?_ _)); exact BK113.out) hb); have n1_ := Aside0.mk (below_step (by repeat (first | (with_reducible first | exact HB.out | apply below_alloc | apply pw_below_drewN | apply below_drew1 | refine below_set ?_ GE113.out) | exact HB.out)) hb); have n2_ := Aside0.mk (hbox); have n3_ := Aside0.mk ((by rw [hg]; exact (below_size (by repeat (first | (with_reducible first | exact HB.out | apply below_alloc | apply pw_below_drewN | apply below_drew1 | refine below_set ?_ GE113.out) | exact HB.out))) : w.heap.size ≤ gb116)); have n4_ := Aside0.mk ((by rw [hg]; exact (below_size (by repeat (first | (with_reducible first | exact HB.out | apply below_alloc | apply pw_below_drewN | apply below_drew1 | refine below_set ?_ GE113.out) | exact HB.out))) : w.heap.size ≤ gb116)); have n5_ := Aside0.mk ((by rw [hg]; exact Nat.ne_of_lt (blk_lt (g := gb113) (o := .cells #[.slice A0_0 l0_0.length c0_0, .slice (some ad115) l0_1.length c0_1] 73 (0, 0)) (by (with_reducible repeat (first | refine blk_drewN ?_ _ | refine blk_drew ?_ | refine blk_alloc ?_ _)); exact BK113.out)) : gb113 ≠ gb116)); have n6_ := Aside0.mk ((by rw [hg]; exact Nat.ne_of_gt (blk_lt (g := gb113) (o := .cells #[.slice A0_0 l0_0.length c0_0, .slice (some ad115) l0_1.length c0_1] 73 (0, 0)) (by (with_reducible repeat (first | refine blk_drewN ?_ _ | refine blk_drew ?_ | refine blk_alloc ?_ _)); exact BK113.out)) : gb116 ≠ gb113)); clear BK113; clear HB; have BK113 := n0_; have HB := n1_; have BK116 := n2_; have GW116 := n3_; have GE116 := n4_; have NB113_116 := n5_; have NB116_113 := n6_; clear n0_ n1_ n2_ n3_ n4_ n5_ n6_; clear hb hbox hg; have hnb14 := NB116_113.out; have hnc14 := NB113_116.out; have hcz15_0 : w13.cell? ⟨gb116, 0, none⟩ = some (.int .i64 0) := (blk_cell BK116.out 0).trans rfl; have hcz15_1 : w13.cell? ⟨gb116, 1, none⟩ = some (.int .i64 0) := (blk_cell BK116.out 1).trans rfl; have hcz15_2 : w13.cell? ⟨gb116, 2, none⟩ = some (.int .i64 0) := (blk_cell BK116.out 2).trans rfl; have hfz15_0 := blk_frozen BK116.out 0; have hfz15_1 := blk_frozen BK116.out 1; have hfz15_2 := blk_frozen BK116.out 2))
                (try simp only [Act.put, List.setIfInBounds_toArray, List.set_cons_zero, List.set_cons_succ])
                go_cut [42] (fun v42 wc => ∃ (kq : Nat) (x42_11 : Bool), v42 = .bool x42_11 ∧ Aside0 (weak_Check.j1 kq l0_1 (l0_1.length : Int) x20_1 x42_11 l0_0 l0_1 ((rd_T122 l0_1 x20_1).f0) ((rd_T122 l0_1 x20_1).f1) ((rd_T122 l0_1 x20_1).f2) = some r) ∧ Aside0 (kq ≤ k1) ∧ Aside0 (wc.heap[gb113]? = some (.cells #[(.slice A0_0 l0_0.length c0_0), (.slice (some ad115) l0_1.length c0_1)] 73 (0, 0))) ∧ Aside0 (wc.heap[gb116]? = some (.cells #[.int .i64 ((rd_T122 l0_1 x20_1).f0), .int .i64 ((rd_T122 l0_1 x20_1).f1), .int .i64 ((rd_T122 l0_1 x20_1).f2)] 122 (0, 0))) ∧ Aside0 (Below w.heap.size w wc))
                case first =>
                  have H := HC12.out
                  clear HC12
                  by_cases c16 : ((rd_T122 l0_1 x20_1).f0) < x4_1
                  · rw [if_pos c16] at H
                    have c16b0 : decide (((rd_T122 l0_1 x20_1).f0) < x4_1) = true := decide_eq_true c16
                    clear c16
                    (first | rw [c16b0] | (simp only [i64_w, i32_w]; rw [c16b0]) | skip)
                    have H' := Aside0.mk H
                    clear H
                    have hnb17 := NB116_113.out
                    have hnc17 := NB113_116.out
                    have hcz18_0 : w13.cell? ⟨gb116, 0, none⟩ = some (.int .i64 0) := (blk_cell BK116.out 0).trans rfl
                    have hcz18_1 : w13.cell? ⟨gb116, 1, none⟩ = some (.int .i64 0) := (blk_cell BK116.out 1).trans rfl
                    have hcz18_2 : w13.cell? ⟨gb116, 2, none⟩ = some (.int .i64 0) := (blk_cell BK116.out 2).trans rfl
                    have hfz18_0 := blk_frozen BK116.out 0
                    have hfz18_1 := blk_frozen BK116.out 1
                    have hfz18_2 := blk_frozen BK116.out 2
                    go_wp2
                    go_meet
                    case rel => exact ⟨_, (true), (by first | rfl | (simp; done) | (simp [*]; done)), H', ⟨by have := HK1.out; first | omega | exact Nat.le_refl _⟩, ⟨by (with_reducible repeat (first | refine blk_drewN ?_ _ | refine blk_drew ?_ | refine blk_alloc ?_ _)); refine blk_far ?_ NB113_116.out _; (with_reducible repeat (first | refine blk_drewN ?_ _ | refine blk_drew ?_ | refine blk_alloc ?_ _)); refine blk_far ?_ NB113_116.out _; (with_reducible repeat (first | refine blk_drewN ?_ _ | refine blk_drew ?_ | refine blk_alloc ?_ _)); refine blk_far ?_ NB113_116.out _; (with_reducible repeat (first | refine blk_drewN ?_ _ | refine blk_drew ?_ | refine blk_alloc ?_ _)); exact BK113.out⟩, ⟨by (with_reducible repeat (first | refine blk_drewN ?_ _ | refine blk_drew ?_ | refine blk_alloc ?_ _)); refine blk_put (cs := #[.int .i64 ((rd_T122 l0_1 x20_1).f0), .int .i64 ((rd_T122 l0_1 x20_1).f1), .int .i64 0]) ?_ 2 _ rfl; (with_reducible repeat (first | refine blk_drewN ?_ _ | refine blk_drew ?_ | refine blk_alloc ?_ _)); refine blk_put (cs := #[.int .i64 ((rd_T122 l0_1 x20_1).f0), .int .i64 0, .int .i64 0]) ?_ 1 _ rfl; (with_reducible repeat (first | refine blk_drewN ?_ _ | refine blk_drew ?_ | refine blk_alloc ?_ _)); refine blk_put (cs := #[.int .i64 0, .int .i64 0, .int .i64 0]) ?_ 0 _ rfl; (with_reducible repeat (first | refine blk_drewN ?_ _ | refine blk_drew ?_ | refine blk_alloc ?_ _)); exact BK116.out⟩, ⟨by repeat (first | (with_reducible first | exact HB.out | apply below_alloc | apply pw_below_drewN | apply below_drew1 | refine below_set ?_ GE113.out | refine below_set ?_ GE116.out) | exact HB.out)⟩⟩
                  · rw [if_neg c16] at H
                    have c16b0 : decide (((rd_T122 l0_1 x20_1).f0) < x4_1) = false := decide_eq_false c16
                    clear c16
                    (first | rw [c16b0] | (simp only [i64_w, i32_w]; rw [c16b0]) | skip)
                    by_cases c19 : ((rd_T122 l0_1 x20_1).f0) > ((rd_T122 l0_1 x20_1).f1)
                    · rw [if_pos c19] at H
                      have c19b0 : decide (((rd_T122 l0_1 x20_1).f1) < ((rd_T122 l0_1 x20_1).f0)) = true := decide_eq_true c19
                      clear c19
                      have H' := Aside0.mk H
                      clear H
                      have hnb20 := NB116_113.out
                      have hnc20 := NB113_116.out
                      have hcz21_0 : w13.cell? ⟨gb116, 0, none⟩ = some (.int .i64 0) := (blk_cell BK116.out 0).trans rfl
                      have hcz21_1 : w13.cell? ⟨gb116, 1, none⟩ = some (.int .i64 0) := (blk_cell BK116.out 1).trans rfl
                      have hcz21_2 : w13.cell? ⟨gb116, 2, none⟩ = some (.int .i64 0) := (blk_cell BK116.out 2).trans rfl
                      have hfz21_0 := blk_frozen BK116.out 0
                      have hfz21_1 := blk_frozen BK116.out 1
                      have hfz21_2 := blk_frozen BK116.out 2
                      go_wp2
                      go_meet
                      case rel => exact ⟨_, (true), (by first | rfl | (simp; done) | (simp [*]; done)), H', ⟨by have := HK1.out; first | omega | exact Nat.le_refl _⟩, ⟨by (with_reducible repeat (first | refine blk_drewN ?_ _ | refine blk_drew ?_ | refine blk_alloc ?_ _)); refine blk_far ?_ NB113_116.out _; (with_reducible repeat (first | refine blk_drewN ?_ _ | refine blk_drew ?_ | refine blk_alloc ?_ _)); refine blk_far ?_ NB113_116.out _; (with_reducible repeat (first | refine blk_drewN ?_ _ | refine blk_drew ?_ | refine blk_alloc ?_ _)); refine blk_far ?_ NB113_116.out _; (with_reducible repeat (first | refine blk_drewN ?_ _ | refine blk_drew ?_ | refine blk_alloc ?_ _)); exact BK113.out⟩, ⟨by (with_reducible repeat (first | refine blk_drewN ?_ _ | refine blk_drew ?_ | refine blk_alloc ?_ _)); refine blk_put (cs := #[.int .i64 ((rd_T122 l0_1 x20_1).f0), .int .i64 ((rd_T122 l0_1 x20_1).f1), .int .i64 0]) ?_ 2 _ rfl; (with_reducible repeat (first | refine blk_drewN ?_ _ | refine blk_drew ?_ | refine blk_alloc ?_ _)); refine blk_put (cs := #[.int .i64 ((rd_T122 l0_1 x20_1).f0), .int .i64 0, .int .i64 0]) ?_ 1 _ rfl; (with_reducible repeat (first | refine blk_drewN ?_ _ | refine blk_drew ?_ | refine blk_alloc ?_ _)); refine blk_put (cs := #[.int .i64 0, .int .i64 0, .int .i64 0]) ?_ 0 _ rfl; (with_reducible repeat (first | refine blk_drewN ?_ _ | refine blk_drew ?_ | refine blk_alloc ?_ _)); exact BK116.out⟩, ⟨by repeat (first | (with_reducible first | exact HB.out | apply below_alloc | apply pw_below_drewN | apply below_drew1 | refine below_set ?_ GE113.out | refine below_set ?_ GE116.out) | exact HB.out)⟩⟩
                    · rw [if_neg c19] at H
                      have c19b0 : decide (((rd_T122 l0_1 x20_1).f1) < ((rd_T122 l0_1 x20_1).f0)) = false := decide_eq_false c19
                      clear c19
                      have H' := Aside0.mk H
                      clear H
                      have hnb22 := NB116_113.out
                      have hnc22 := NB113_116.out
                      have hcz23_0 : w13.cell? ⟨gb116, 0, none⟩ = some (.int .i64 0) := (blk_cell BK116.out 0).trans rfl
                      have hcz23_1 : w13.cell? ⟨gb116, 1, none⟩ = some (.int .i64 0) := (blk_cell BK116.out 1).trans rfl
                      have hcz23_2 : w13.cell? ⟨gb116, 2, none⟩ = some (.int .i64 0) := (blk_cell BK116.out 2).trans rfl
                      have hfz23_0 := blk_frozen BK116.out 0
                      have hfz23_1 := blk_frozen BK116.out 1
                      have hfz23_2 := blk_frozen BK116.out 2
                      have hcz24_0 : w13.cell? ⟨gb113, 0, none⟩ = some (.slice A0_0 l0_0.length c0_0) := (blk_cell BK113.out 0).trans rfl
                      have hcz24_1 : w13.cell? ⟨gb113, 1, none⟩ = some (.slice (some ad115) l0_1.length c0_1) := (blk_cell BK113.out 1).trans rfl
                      have hfz24_0 := blk_frozen BK113.out 0
                      have hfz24_1 := blk_frozen BK113.out 1
                      go_wp2
                      go_meet
                      case rel => exact ⟨_, (decide (((rd_T122 l0_1 x20_1).f1) > (l0_0.length : Int))), (by first | rfl | (simp; done) | (simp [*]; done)), H', ⟨by have := HK1.out; first | omega | exact Nat.le_refl _⟩, ⟨by (with_reducible repeat (first | refine blk_drewN ?_ _ | refine blk_drew ?_ | refine blk_alloc ?_ _)); refine blk_far ?_ NB113_116.out _; (with_reducible repeat (first | refine blk_drewN ?_ _ | refine blk_drew ?_ | refine blk_alloc ?_ _)); refine blk_far ?_ NB113_116.out _; (with_reducible repeat (first | refine blk_drewN ?_ _ | refine blk_drew ?_ | refine blk_alloc ?_ _)); refine blk_far ?_ NB113_116.out _; (with_reducible repeat (first | refine blk_drewN ?_ _ | refine blk_drew ?_ | refine blk_alloc ?_ _)); exact BK113.out⟩, ⟨by (with_reducible repeat (first | refine blk_drewN ?_ _ | refine blk_drew ?_ | refine blk_alloc ?_ _)); refine blk_put (cs := #[.int .i64 ((rd_T122 l0_1 x20_1).f0), .int .i64 ((rd_T122 l0_1 x20_1).f1), .int .i64 0]) ?_ 2 _ rfl; (with_reducible repeat (first | refine blk_drewN ?_ _ | refine blk_drew ?_ | refine blk_alloc ?_ _)); refine blk_put (cs := #[.int .i64 ((rd_T122 l0_1 x20_1).f0), .int .i64 0, .int .i64 0]) ?_ 1 _ rfl; (with_reducible repeat (first | refine blk_drewN ?_ _ | refine blk_drew ?_ | refine blk_alloc ?_ _)); refine blk_put (cs := #[.int .i64 0, .int .i64 0, .int .i64 0]) ?_ 0 _ rfl; (with_reducible repeat (first | refine blk_drewN ?_ _ | refine blk_drew ?_ | refine blk_alloc ?_ _)); exact BK116.out⟩, ⟨by repeat (first | (with_reducible first | exact HB.out | apply below_alloc | apply pw_below_drewN | apply below_drew1 | refine below_set ?_ GE113.out | refine below_set ?_ GE116.out) | exact HB.out)⟩⟩
                case rest =>
                  clear HC12
                  try clear c1
                  try clear p1
                  try clear q1
                  try clear hx1
                  try clear c2
                  try clear p2
                  try clear c3
                  try clear c3b0
                  try clear c3b1
                  try clear c4
                  try clear c4b0
                  try clear c4b1
                  try clear c5
                  try clear c9
                  try clear c9b0
                  try clear c10
                  try clear c10b0
                  try clear c11
                  try clear c11b0
                  try clear p11
                  try clear q11
                  try clear hx11
                  try clear c14
                  try clear c16
                  try clear c16b0
                  try clear c17
                  try clear c19
                  try clear c19b0
                  try clear c20
                  try clear c22
                  try clear hcz15_0
                  try clear hcz15_1
                  try clear hcz15_2
                  try clear hcz18_0
                  try clear hcz18_1
                  try clear hcz18_2
                  try clear hcz21_0
                  try clear hcz21_1
                  try clear hcz21_2
                  try clear hcz23_0
                  try clear hcz23_1
                  try clear hcz23_2
                  try clear hcz24_0
                  try clear hcz24_1
                  try clear hcz6_0
                  try clear hcz6_1
                  try clear hcz8_0
                  try clear hcz8_1
                  try clear hfz15_0
                  try clear hfz15_1
                  try clear hfz15_2
                  try clear hfz18_0
                  try clear hfz18_1
                  try clear hfz18_2
                  try clear hfz21_0
                  try clear hfz21_1
                  try clear hfz21_2
                  try clear hfz23_0
                  try clear hfz23_1
                  try clear hfz23_2
                  try clear hfz24_0
                  try clear hfz24_1
                  try clear hfz6_0
                  try clear hfz6_1
                  try clear hfz8_0
                  try clear hfz8_1
                  try clear hx115_0
                  try clear hx115_1
                  try clear hx115_2
                  try clear p115
                  try clear p2
                  try clear q115
                  obtain ⟨kq, x42_11, rfl, HA, HJ11, BK113, BK116, HB⟩ := hcut
                  cases kq with
                  | zero => exact absurd HA.out (by simp [weak_Check.j1])
                  | succ kj11 =>
                    have H := HA.out
                    clear HA
                    simp only [weak_Check.j1] at H
                    by_cases c25 : x42_11 = true
                    · subst c25
                      have H1 : (some 9) = some r := by rw [if_pos rfl] at H; exact H
                      clear H
                      have H := H1
                      clear H1
                      obtain rfl := Option.some.inj H
                      go_wp2
                      go_ret
                      exact ⟨by first | rfl | (simp [errW_none, errW_some] <;> rfl) | (simp [*, errW_none, errW_some] <;> rfl), by repeat (first | (with_reducible first | exact HB.out | apply below_alloc | apply pw_below_drewN | apply below_drew1 | refine below_set ?_ GE113.out | refine below_set ?_ GE116.out) | exact HB.out)⟩
                    · replace c25 := Bool.eq_false_iff.mpr c25
                      subst c25
                      have H1 : (if ((rd_T122 l0_1 x20_1).f2) < 0 then (some 1) else (if ((rd_T122 l0_1 x20_1).f2) > 100000 then (some 1) else (weak_Check.l0 kj11 ((rd_T122 l0_1 x20_1).f1) l0_1 (l0_1.length : Int) (wrap64 (x20_1 + 1)) l0_0 l0_1))) = some r := by rw [if_neg (show ¬ (false = true) by decide)] at H; exact H
                      clear H
                      have H := H1
                      clear H1
                      by_cases c26 : ((rd_T122 l0_1 x20_1).f2) < 0
                      · rw [if_pos c26] at H
                        have c26b0 : decide (((rd_T122 l0_1 x20_1).f2) < 0) = true := decide_eq_true c26
                        clear c26
                        obtain rfl := Option.some.inj H
                        have hnb27 := NB116_113.out
                        have hnc27 := NB113_116.out
                        have hcz28_0 : wc.cell? ⟨gb116, 0, none⟩ = some (.int .i64 ((rd_T122 l0_1 x20_1).f0)) := (blk_cell BK116.out 0).trans rfl
                        have hcz28_1 : wc.cell? ⟨gb116, 1, none⟩ = some (.int .i64 ((rd_T122 l0_1 x20_1).f1)) := (blk_cell BK116.out 1).trans rfl
                        have hcz28_2 : wc.cell? ⟨gb116, 2, none⟩ = some (.int .i64 ((rd_T122 l0_1 x20_1).f2)) := (blk_cell BK116.out 2).trans rfl
                        have hfz28_0 := blk_frozen BK116.out 0
                        have hfz28_1 := blk_frozen BK116.out 1
                        have hfz28_2 := blk_frozen BK116.out 2
                        go_wp2
                        go_ret
                        exact ⟨by first | rfl | (simp [errW_none, errW_some] <;> rfl) | (simp [*, errW_none, errW_some] <;> rfl), by repeat (first | (with_reducible first | exact HB.out | apply below_alloc | apply pw_below_drewN | apply below_drew1 | refine below_set ?_ GE113.out | refine below_set ?_ GE116.out) | exact HB.out)⟩
                      · rw [if_neg c26] at H
                        have c26b0 : decide (((rd_T122 l0_1 x20_1).f2) < 0) = false := decide_eq_false c26
                        clear c26
                        by_cases c29 : ((rd_T122 l0_1 x20_1).f2) > 100000
                        · rw [if_pos c29] at H
                          have c29b0 : decide (100000 < ((rd_T122 l0_1 x20_1).f2)) = true := decide_eq_true c29
                          clear c29
                          obtain rfl := Option.some.inj H
                          have hnb30 := NB116_113.out
                          have hnc30 := NB113_116.out
                          have hcz31_0 : wc.cell? ⟨gb116, 0, none⟩ = some (.int .i64 ((rd_T122 l0_1 x20_1).f0)) := (blk_cell BK116.out 0).trans rfl
                          have hcz31_1 : wc.cell? ⟨gb116, 1, none⟩ = some (.int .i64 ((rd_T122 l0_1 x20_1).f1)) := (blk_cell BK116.out 1).trans rfl
                          have hcz31_2 : wc.cell? ⟨gb116, 2, none⟩ = some (.int .i64 ((rd_T122 l0_1 x20_1).f2)) := (blk_cell BK116.out 2).trans rfl
                          have hfz31_0 := blk_frozen BK116.out 0
                          have hfz31_1 := blk_frozen BK116.out 1
                          have hfz31_2 := blk_frozen BK116.out 2
                          go_wp2
                          go_ret
                          exact ⟨by first | rfl | (simp [errW_none, errW_some] <;> rfl) | (simp [*, errW_none, errW_some] <;> rfl), by repeat (first | (with_reducible first | exact HB.out | apply below_alloc | apply pw_below_drewN | apply below_drew1 | refine below_set ?_ GE113.out | refine below_set ?_ GE116.out) | exact HB.out)⟩
                        · rw [if_neg c29] at H
                          have c29b0 : decide (100000 < ((rd_T122 l0_1 x20_1).f2)) = false := decide_eq_false c29
                          clear c29
                          have H' := Aside0.mk H
                          clear H
                          have hnb32 := NB116_113.out
                          have hnc32 := NB113_116.out
                          have hcz33_0 : wc.cell? ⟨gb116, 0, none⟩ = some (.int .i64 ((rd_T122 l0_1 x20_1).f0)) := (blk_cell BK116.out 0).trans rfl
                          have hcz33_1 : wc.cell? ⟨gb116, 1, none⟩ = some (.int .i64 ((rd_T122 l0_1 x20_1).f1)) := (blk_cell BK116.out 1).trans rfl
                          have hcz33_2 : wc.cell? ⟨gb116, 2, none⟩ = some (.int .i64 ((rd_T122 l0_1 x20_1).f2)) := (blk_cell BK116.out 2).trans rfl
                          have hfz33_0 := blk_frozen BK116.out 0
                          have hfz33_1 := blk_frozen BK116.out 1
                          have hfz33_2 := blk_frozen BK116.out 2
                          go_wp2
                          go_roundg kj11
                          case measure => have := HK1.out; have := HJ11.out; omega
                          case rel => exact ⟨(((rd_T122 l0_1 x20_1).f1)), (wrap64 (x20_1 + 1)), (by first | rfl | (simp; done) | (simp [*]; done)), (by first | rfl | (simp; done) | (simp [*]; done)), H', ⟨by have := HK1.out; have := HJ11.out; omega⟩, ⟨by (with_reducible repeat (first | refine blk_drewN ?_ _ | refine blk_drew ?_ | refine blk_alloc ?_ _)); exact BK113.out⟩, ⟨by repeat (first | (with_reducible first | exact HB.out | apply below_alloc | apply pw_below_drewN | apply below_drew1 | refine below_set ?_ GE113.out | refine below_set ?_ GE116.out) | exact HB.out)⟩⟩
              · rw [if_neg c11] at H
                exact absurd H (by simp)
            · rw [if_neg c10] at H
              exact absurd H (by simp)
          · rw [if_neg c9] at H
            have c9b0 : decide (x20_1 < (l0_1.length : Int)) = false := decide_eq_false c9
            clear c9
            obtain rfl := Option.some.inj H
            go_wp2
            go_ret
            exact ⟨by first | rfl | (simp [errW_none, errW_some] <;> rfl) | (simp [*, errW_none, errW_some] <;> rfl), by repeat (first | (with_reducible first | exact HB.out | apply below_alloc | apply pw_below_drewN | apply below_drew1 | refine below_set ?_ GE113.out) | exact HB.out)⟩
  · rw [if_neg c3] at H
    have c3b0 : (t114 == 0) = false := beq_eq_false_iff_ne.mpr c3
    have c3b1 : (t114 != 0) = true := bne_iff_ne.mpr c3
    obtain rfl := Option.some.inj H
    go_enter Try.func58, Try.ntmps58
    go_wp2_with (first | ((with_reducible refine gate_dst (N := 1) rfl ?_); (try (refine gate_guard (by rfl) ?_; dsimp only)); refine box_event ?hg (N := 1) ?hd (cs := #[.slice A0_0 l0_0.length c0_0, .slice A0_1 l0_1.length c0_1]) (t := 73) ?hr ?_; (case hd => rfl); (case hg => rfl); (case hr => first | (go_simp; done) | (go_simp; rfl)); intro gb113 hg w34 hbox hb; have n0_ := Aside0.mk (below_step (by repeat (first | (with_reducible first | exact HB.out | apply below_alloc | apply pw_below_drewN | apply below_drew1) | exact HB.out)) hb); have n1_ := Aside0.mk (hbox); have n2_ := Aside0.mk ((by rw [hg]; exact (below_size (by repeat (first | (with_reducible first | exact HB.out | apply below_alloc | apply pw_below_drewN | apply below_drew1) | exact HB.out))) : w.heap.size ≤ gb113)); have n3_ := Aside0.mk ((by rw [hg]; exact (below_size (by repeat (first | (with_reducible first | exact HB.out | apply below_alloc | apply pw_below_drewN | apply below_drew1) | exact HB.out))) : w.heap.size ≤ gb113)); clear HB; have HB := n0_; have BK113 := n1_; have GW113 := n2_; have GE113 := n3_; clear n0_ n1_ n2_ n3_; clear hb hbox hg; have hcz35_0 : w34.cell? ⟨gb113, 0, none⟩ = some (.slice A0_0 l0_0.length c0_0) := (blk_cell BK113.out 0).trans rfl; have hcz35_1 : w34.cell? ⟨gb113, 1, none⟩ = some (.slice A0_1 l0_1.length c0_1) := (blk_cell BK113.out 1).trans rfl; have hfz35_0 := blk_frozen BK113.out 0; have hfz35_1 := blk_frozen BK113.out 1) | ((with_reducible refine gate_callee (f := 31) rfl ?_); refine goesL_ (some 9) rfl rfl Try.func31 (by kernel_rfl) rfl #[.slice A0_0 l0_0.length c0_0] rfl (by (try simp only [List.map_toArray, List.map_cons, List.map_nil]); first | done | rfl | (simp only [List.length_drop, List.length_take]; rfl)) ?_; (with_reducible refine (flux_Check.calls k _ _ l0_0 t114 _ ?side1 ?side2 A2.out).mono ?_); (case side1 => repeat (first | exact (Kd.C_below HR0_0.out HB.out) | (with_reducible refine Kd.C_alloc ?_ _) | (with_reducible refine Kd.C_drewN ?_ _) | (with_reducible refine Kd.C_drew ?_))); (case side2 => exact HC0_0.out); rintro e w' ⟨rfl, ⟨nd, rfl⟩⟩; refine ⟨_, rfl, ?_⟩))
    go_ret
    exact ⟨by first | rfl | (simp [errW_none, errW_some] <;> rfl) | (simp [*, errW_none, errW_some] <;> rfl), by repeat (first | (with_reducible first | exact HB.out | apply below_alloc | apply pw_below_drewN | apply below_drew1 | refine below_set ?_ GE113.out) | exact HB.out)⟩

/-! ### weak_next: function 99 -/
def weak_next.f (a0 : Int) : Option (Int) := some (IntKind.u64.wrap ((IntKind.u64.wrap (a0 * 6364136223846793005)) + 1442695040888963407))
set_option maxHeartbeats 8000000 in
set_option maxRecDepth 100000 in
theorem weak_next.calls (a0 : Int) (r : Int) (w : World) (h : weak_next.f a0 = some r) :
    Calls Try.prog 99 #[.int .u64 a0] w fun e w' => e = .returned (.int .u64 r) ∧ Drawn0 w w' := by
  have H : (some (IntKind.u64.wrap ((IntKind.u64.wrap (a0 * 6364136223846793005)) + 1442695040888963407))) = some r := h
  clear h
  obtain rfl := Option.some.inj H
  go_enter Try.func99, Try.ntmps99
  go_wp2
  go_ret
  exact ⟨by first | rfl | (simp; done) | (simp [*]; done), by repeat (first | exact Drawn0.refl _ | apply Drawn0.step)⟩

/-! ### weak_Read: function 55 -/
mutual
def weak_Read.l0 : Nat → List Int → Int → List (S122) → Int → Int → Option (List Int × Int)
  | 0, _, _, _, _, _ => none
  | k + 1, x7, x9, x30, x31, x32 => if x32 < x31 then (if 0 ≤ x32 then (if x32 < (x30.length : Int) then (weak_Read.l1 k x7 x9 ((rd_T122 x30 x32).f0) x30 x31 x32 ((rd_T122 x30 x32).f0) ((rd_T122 x30 x32).f1) ((rd_T122 x30 x32).f2)) else (none)) else (none)) else ((flux_Of.f k x7).bind fun bt123 => (some (bt123.1, bt123.2)))
def weak_Read.l1 : Nat → List Int → Int → Int → List (S122) → Int → Int → Int → Int → Int → Option (List Int × Int)
  | 0, _, _, _, _, _, _, _, _, _ => none
  | k + 1, x7, x9, x12, x30, x31, x32, x129000, x129001, x129002 => if x12 < x129001 then ((weak_next.f x9).bind fun t129 => (if (IntKind.u64.wrap (wrap64 ((wrap64 (2 * x129002)) + 1))) = 0 then (none) else (if 0 ≤ x12 then (if x12 < (x7.length : Int) then (if x12 > 0 then (if 0 ≤ (wrap64 (x12 - 1)) then (if (wrap64 (x12 - 1)) < (x7.length : Int) then (if (wrap64 (x12 + 1)) < (x7.length : Int) then (if 0 ≤ (wrap64 (x12 + 1)) then (weak_Read.l1 k (x7.set (x12 : Int).toNat (mx (wrap64 ((rd x7 (wrap64 (x12 - 1))) + 1)) (mn (wrap64 ((rd x7 (wrap64 (x12 + 1))) - 1)) (wrap64 ((rd x7 x12) + (wrap64 ((wrap64 (Int.tmod (t129 / 8589934592) (IntKind.u64.wrap (wrap64 ((wrap64 (2 * x129002)) + 1))))) - x129002))))))) t129 (wrap64 (x12 + 1)) x30 x31 x32 x129000 x129001 x129002) else (none)) else (weak_Read.l1 k (x7.set (x12 : Int).toNat (mx (wrap64 ((rd x7 (wrap64 (x12 - 1))) + 1)) (mn (wrap64 ((rd x7 x12) + 100000)) (wrap64 ((rd x7 x12) + (wrap64 ((wrap64 (Int.tmod (t129 / 8589934592) (IntKind.u64.wrap (wrap64 ((wrap64 (2 * x129002)) + 1))))) - x129002))))))) t129 (wrap64 (x12 + 1)) x30 x31 x32 x129000 x129001 x129002)) else (none)) else (none)) else (if (wrap64 (x12 + 1)) < (x7.length : Int) then (if 0 ≤ (wrap64 (x12 + 1)) then (weak_Read.l1 k (x7.set (x12 : Int).toNat (mx 1 (mn (wrap64 ((rd x7 (wrap64 (x12 + 1))) - 1)) (wrap64 ((rd x7 x12) + (wrap64 ((wrap64 (Int.tmod (t129 / 8589934592) (IntKind.u64.wrap (wrap64 ((wrap64 (2 * x129002)) + 1))))) - x129002))))))) t129 (wrap64 (x12 + 1)) x30 x31 x32 x129000 x129001 x129002) else (none)) else (weak_Read.l1 k (x7.set (x12 : Int).toNat (mx 1 (mn (wrap64 ((rd x7 x12) + 100000)) (wrap64 ((rd x7 x12) + (wrap64 ((wrap64 (Int.tmod (t129 / 8589934592) (IntKind.u64.wrap (wrap64 ((wrap64 (2 * x129002)) + 1))))) - x129002))))))) t129 (wrap64 (x12 + 1)) x30 x31 x32 x129000 x129001 x129002))) else (none)) else (none)))) else (weak_Read.l0 k x7 x9 x30 x31 (wrap64 (x32 + 1)))
end
def weak_Read.f (k : Nat) (l0_0 : List Int) (l0_1 : List (S122)) (a1 : Int) : Option (List Int × Int) := (weak_Check.f k l0_0 l0_1).bind fun t118 => (if t118 = 0 then ((flux_Marks.f k l0_0).bind fun bt119 => (weak_Read.l0 k bt119.1 (IntKind.u64.wrap (a1)) l0_1 (l0_1.length : Int) 0)) else (some (([] : List Int), t118)))
theorem weak_Read.mono_l : ∀ k, (∀ y0 y1 y2 y3 y4, LeO (weak_Read.l0 k y0 y1 y2 y3 y4) (weak_Read.l0 (k + 1) y0 y1 y2 y3 y4)) ∧ (∀ y0 y1 y2 y3 y4 y5 y6 y7 y8, LeO (weak_Read.l1 k y0 y1 y2 y3 y4 y5 y6 y7 y8) (weak_Read.l1 (k + 1) y0 y1 y2 y3 y4 y5 y6 y7 y8))
  | 0 => ⟨fun _ _ _ _ _ r h => by simp [weak_Read.l0] at h, fun _ _ _ _ _ _ _ _ _ r h => by simp [weak_Read.l1] at h⟩
  | k + 1 => by
    obtain ⟨ih0, ih1⟩ := weak_Read.mono_l k
    refine ⟨?_, ?_⟩
    · intro y0 y1 y2 y3 y4
      unfold weak_Read.l0
      repeat' first
      | (with_reducible exact ih0 _ _ _ _ _)
      | (with_reducible exact ih1 _ _ _ _ _ _ _ _ _)
      | (with_reducible exact flux_Marks.mono _ _)
      | (with_reducible exact flux_Of.mono _ _)
      | (with_reducible exact weak_Check.mono _ _ _)
      | (with_reducible exact LeO.refl _)
      | (with_reducible exact LeO.none _)
      | (with_reducible refine LeO.ite ?_ ?_)
      | (with_reducible refine LeO.bind ?_ (fun _ => ?_))
      | exact ih0 _ _ _ _ _
      | exact ih1 _ _ _ _ _ _ _ _ _
      | exact flux_Marks.mono _ _
      | exact flux_Of.mono _ _
      | exact weak_Check.mono _ _ _
      | exact LeO.none _
      | refine LeO.ite ?_ ?_
      | refine LeO.bind ?_ (fun _ => ?_)
    · intro y0 y1 y2 y3 y4 y5 y6 y7 y8
      unfold weak_Read.l1
      repeat' first
      | (with_reducible exact ih0 _ _ _ _ _)
      | (with_reducible exact ih1 _ _ _ _ _ _ _ _ _)
      | (with_reducible exact flux_Marks.mono _ _)
      | (with_reducible exact flux_Of.mono _ _)
      | (with_reducible exact weak_Check.mono _ _ _)
      | (with_reducible exact LeO.refl _)
      | (with_reducible exact LeO.none _)
      | (with_reducible refine LeO.ite ?_ ?_)
      | (with_reducible refine LeO.bind ?_ (fun _ => ?_))
      | exact ih0 _ _ _ _ _
      | exact ih1 _ _ _ _ _ _ _ _ _
      | exact flux_Marks.mono _ _
      | exact flux_Of.mono _ _
      | exact weak_Check.mono _ _ _
      | exact LeO.none _
      | refine LeO.ite ?_ ?_
      | refine LeO.bind ?_ (fun _ => ?_)
theorem weak_Read.mono : ∀ a0 a1 a2 k, LeO (weak_Read.f k a0 a1 a2) (weak_Read.f (k + 1) a0 a1 a2) := by
  intro a0 a1 a2 k
  obtain ⟨ih0, ih1⟩ := weak_Read.mono_l k
  unfold weak_Read.f
  repeat' first
      | (with_reducible exact ih0 _ _ _ _ _)
      | (with_reducible exact ih1 _ _ _ _ _ _ _ _ _)
      | (with_reducible exact flux_Marks.mono _ _)
      | (with_reducible exact flux_Of.mono _ _)
      | (with_reducible exact weak_Check.mono _ _ _)
      | (with_reducible exact LeO.refl _)
      | (with_reducible exact LeO.none _)
      | (with_reducible refine LeO.ite ?_ ?_)
      | (with_reducible refine LeO.bind ?_ (fun _ => ?_))
      | exact ih0 _ _ _ _ _
      | exact ih1 _ _ _ _ _ _ _ _ _
      | exact flux_Marks.mono _ _
      | exact flux_Of.mono _ _
      | exact weak_Check.mono _ _ _
      | exact LeO.none _
      | refine LeO.ite ?_ ?_
      | refine LeO.bind ?_ (fun _ => ?_)
set_option maxHeartbeats 8000000 in
set_option maxRecDepth 100000 in
theorem weak_Read.calls (k : Nat) (A0_0 : Option Addr) (c0_0 : Nat) (l0_0 : List Int) (A0_1 : Option Addr) (c0_1 : Nat) (l0_1 : List (S122)) (a1 : Int) (r1 : List Int) (r2 : Int) (w : World) (hr0_0 : Kd.C (Kd.int .i64) w A0_0 l0_0.length l0_0) (hc0_0 : l0_0.length ≤ c0_0) (hr0_1 : Kd.C k122 w A0_1 l0_1.length l0_1) (hc0_1 : l0_1.length ≤ c0_1) (h : weak_Read.f k l0_0 l0_1 a1 = some (r1, r2)) :
    Calls Try.prog 55 #[.agg #[.slice A0_0 l0_0.length c0_0, .slice A0_1 l0_1.length c0_1], .int .i64 a1] w fun e w' => ∃ v0_ : Value, e = .returned (.tuple #[v0_, .int .i64 r2]) ∧ Kd.R (Kd.int .i64) 3 w' w.heap.size (fun _ => True) v0_ r1 ∧ Below w.heap.size w w' := by
  have hu73 := Try.underlying73
  have hu122 := Try.underlying122
  have HR0_0 := Aside0.mk hr0_0
  have HC0_0 := Aside0.mk hc0_0
  clear hr0_0 hc0_0
  have HR0_1 := Aside0.mk hr0_1
  have HC0_1 := Aside0.mk hc0_1
  clear hr0_1 hc0_1
  have HB := Aside0.mk (Below.refl w.heap.size w)
  have H : ((weak_Check.f k l0_0 l0_1).bind fun t118 => (if t118 = 0 then ((flux_Marks.f k l0_0).bind fun bt119 => (weak_Read.l0 k bt119.1 (IntKind.u64.wrap (a1)) l0_1 (l0_1.length : Int) 0)) else (some (([] : List Int), t118)))) = some (r1, r2) := h
  clear h
  replace H := Option.bind_eq_some_iff.mp H
  obtain ⟨t118, A30, H⟩ := H
  replace H : (if t118 = 0 then ((flux_Marks.f k l0_0).bind fun bt119 => (weak_Read.l0 k bt119.1 (IntKind.u64.wrap (a1)) l0_1 (l0_1.length : Int) 0)) else (some (([] : List Int), t118))) = some (r1, r2) := H
  have A3 := Aside0.mk A30
  clear A30
  by_cases c4 : t118 = 0
  · rw [if_pos c4] at H
    have c4b0 : (t118 == 0) = true := beq_iff_eq.mpr c4
    have c4b1 : (t118 != 0) = false := bne_eq_false_iff_eq.mpr c4
    clear c4
    replace H := Option.bind_eq_some_iff.mp H
    obtain ⟨⟨t119, t120⟩, A50, H⟩ := H
    replace H : (weak_Read.l0 k t119 (IntKind.u64.wrap (a1)) l0_1 (l0_1.length : Int) 0) = some (r1, r2) := H
    have A5 := Aside0.mk A50
    clear A50
    have H' := Aside0.mk H
    clear H
    go_enter Try.func55, Try.ntmps55
    go_wp2_with (first | ((with_reducible refine gate_dst (N := 2) rfl ?_); refine box_event ?hg (N := 2) ?hd (cs := #[.slice A0_0 l0_0.length c0_0, .slice A0_1 l0_1.length c0_1]) (t := 73) ?hr ?_; (case hd => rfl); (case hg => rfl); (case hr => first | (go_simp; done) | (go_simp; rfl)); intro gb117 hg w6 hbox hb; have n0_ := Aside0.mk (below_step (by repeat (first | (with_reducible first | exact HB.out | apply below_alloc | apply pw_below_drewN | apply below_drew1) | exact HB.out)) hb); have n1_ := Aside0.mk (hbox); have n2_ := Aside0.mk ((by rw [hg]; exact (below_size (by repeat (first | (with_reducible first | exact HB.out | apply below_alloc | apply pw_below_drewN | apply below_drew1) | exact HB.out))) : w.heap.size ≤ gb117)); have n3_ := Aside0.mk ((by rw [hg]; exact (below_size (by repeat (first | (with_reducible first | exact HB.out | apply below_alloc | apply pw_below_drewN | apply below_drew1) | exact HB.out))) : w.heap.size ≤ gb117)); clear HB; have HB := n0_; have BK117 := n1_; have GW117 := n2_; have GE117 := n3_; clear n0_ n1_ n2_ n3_; clear hb hbox hg; have hcz7_0 : w6.cell? ⟨gb117, 0, none⟩ = some (.slice A0_0 l0_0.length c0_0) := (blk_cell BK117.out 0).trans rfl; have hcz7_1 : w6.cell? ⟨gb117, 1, none⟩ = some (.slice A0_1 l0_1.length c0_1) := (blk_cell BK117.out 1).trans rfl; have hfz7_0 := blk_frozen BK117.out 0; have hfz7_1 := blk_frozen BK117.out 1) | (go_at_call 58; (with_reducible refine (weak_Check.calls k _ _ l0_0 _ _ l0_1 t118 _ ?side1 ?side2 ?side3 ?side4 A3.out).mono ?_); (case side1 => repeat (first | exact (Kd.C_below HR0_0.out HB.out) | (with_reducible refine Kd.C_alloc ?_ _) | (with_reducible refine Kd.C_drewN ?_ _) | (with_reducible refine Kd.C_drew ?_))); (case side2 => exact HC0_0.out); (case side3 => repeat (first | exact (Kd.C_below HR0_1.out HB.out) | (with_reducible refine Kd.C_alloc ?_ _) | (with_reducible refine Kd.C_drewN ?_ _) | (with_reducible refine Kd.C_drew ?_))); (case side4 => exact HC0_1.out); rintro e w8 ⟨rfl, hb⟩; have n0_ := Aside0.mk (blk_below (g := gb117) (o := .cells #[.slice A0_0 l0_0.length c0_0, .slice A0_1 l0_1.length c0_1] 73 (0, 0)) (by (with_reducible repeat (first | refine blk_drewN ?_ _ | refine blk_drew ?_ | refine blk_alloc ?_ _)); exact BK117.out) hb); have n1_ := Aside0.mk (below_step (by repeat (first | (with_reducible first | exact HB.out | apply below_alloc | apply pw_below_drewN | apply below_drew1 | refine below_set ?_ GE117.out) | exact HB.out)) hb); clear BK117; clear HB; have BK117 := n0_; have HB := n1_; clear n0_ n1_; (try clear hb); (try clear hb2); (try clear hk); (try clear hi); have hcz9_0 : w8.cell? ⟨gb117, 0, none⟩ = some (.slice A0_0 l0_0.length c0_0) := (blk_cell BK117.out 0).trans rfl; have hcz9_1 : w8.cell? ⟨gb117, 1, none⟩ = some (.slice A0_1 l0_1.length c0_1) := (blk_cell BK117.out 1).trans rfl; have hfz9_0 := blk_frozen BK117.out 0; have hfz9_1 := blk_frozen BK117.out 1) | (go_at_call 33; (with_reducible refine (flux_Marks.calls k _ _ l0_0 t119 t120 _ ?side1 ?side2 A5.out).mono ?_); (case side1 => repeat (first | exact (Kd.C_below HR0_0.out HB.out) | (with_reducible refine Kd.C_alloc ?_ _) | (with_reducible refine Kd.C_drewN ?_ _) | (with_reducible refine Kd.C_drew ?_))); (case side2 => exact HC0_0.out); rintro e w10 ⟨v121, rfl, ho0, hb⟩; have n0_ := Aside0.mk (Kd.R_lower ho0 (below_size (by repeat (first | (with_reducible first | exact HB.out | apply below_alloc | apply pw_below_drewN | apply below_drew1 | refine below_set ?_ GE117.out) | exact HB.out)))); have n1_ := Aside0.mk (blk_below (g := gb117) (o := .cells #[.slice A0_0 l0_0.length c0_0, .slice A0_1 l0_1.length c0_1] 73 (0, 0)) (by (with_reducible repeat (first | refine blk_drewN ?_ _ | refine blk_drew ?_ | refine blk_alloc ?_ _)); exact BK117.out) hb); have n2_ := Aside0.mk (below_step (by repeat (first | (with_reducible first | exact HB.out | apply below_alloc | apply pw_below_drewN | apply below_drew1 | refine below_set ?_ GE117.out) | exact HB.out)) hb); clear BK117; clear HB; have HO122 := n0_; have BK117 := n1_; have HB := n2_; clear n0_ n1_ n2_; (try clear hb); (try clear hb2); (try clear hk); (try clear hi); (try clear ho0); have hcz11_0 : w10.cell? ⟨gb117, 0, none⟩ = some (.slice A0_0 l0_0.length c0_0) := (blk_cell BK117.out 0).trans rfl; have hcz11_1 : w10.cell? ⟨gb117, 1, none⟩ = some (.slice A0_1 l0_1.length c0_1) := (blk_cell BK117.out 1).trans rfl; have hfz11_0 := blk_frozen BK117.out 0; have hfz11_1 := blk_frozen BK117.out 1))
    repeat (go_quiet (first | ((with_reducible refine gate_dst (N := 2) rfl ?_); refine box_event ?hg (N := 2) ?hd (cs := #[.slice A0_0 l0_0.length c0_0, .slice A0_1 l0_1.length c0_1]) (t := 73) ?hr ?_; (case hd => rfl); (case hg => rfl); (case hr => first | (go_simp; done) | (go_simp; rfl)); intro gb117 hg w6 hbox hb; have n0_ := Aside0.mk (below_step (by repeat (first | (with_reducible first | exact HB.out | apply below_alloc | apply pw_below_drewN | apply below_drew1) | exact HB.out)) hb); have n1_ := Aside0.mk (hbox); have n2_ := Aside0.mk ((by rw [hg]; exact (below_size (by repeat (first | (with_reducible first | exact HB.out | apply below_alloc | apply pw_below_drewN | apply below_drew1) | exact HB.out))) : w.heap.size ≤ gb117)); have n3_ := Aside0.mk ((by rw [hg]; exact (below_size (by repeat (first | (with_reducible first | exact HB.out | apply below_alloc | apply pw_below_drewN | apply below_drew1) | exact HB.out))) : w.heap.size ≤ gb117)); clear HB; have HB := n0_; have BK117 := n1_; have GW117 := n2_; have GE117 := n3_; clear n0_ n1_ n2_ n3_; clear hb hbox hg; have hcz7_0 : w6.cell? ⟨gb117, 0, none⟩ = some (.slice A0_0 l0_0.length c0_0) := (blk_cell BK117.out 0).trans rfl; have hcz7_1 : w6.cell? ⟨gb117, 1, none⟩ = some (.slice A0_1 l0_1.length c0_1) := (blk_cell BK117.out 1).trans rfl; have hfz7_0 := blk_frozen BK117.out 0; have hfz7_1 := blk_frozen BK117.out 1) | (go_at_call 58; (with_reducible refine (weak_Check.calls k _ _ l0_0 _ _ l0_1 t118 _ ?side1 ?side2 ?side3 ?side4 A3.out).mono ?_); (case side1 => repeat (first | exact (Kd.C_below HR0_0.out HB.out) | (with_reducible refine Kd.C_alloc ?_ _) | (with_reducible refine Kd.C_drewN ?_ _) | (with_reducible refine Kd.C_drew ?_))); (case side2 => exact HC0_0.out); (case side3 => repeat (first | exact (Kd.C_below HR0_1.out HB.out) | (with_reducible refine Kd.C_alloc ?_ _) | (with_reducible refine Kd.C_drewN ?_ _) | (with_reducible refine Kd.C_drew ?_))); (case side4 => exact HC0_1.out); rintro e w8 ⟨rfl, hb⟩; have n0_ := Aside0.mk (blk_below (g := gb117) (o := .cells #[.slice A0_0 l0_0.length c0_0, .slice A0_1 l0_1.length c0_1] 73 (0, 0)) (by (with_reducible repeat (first | refine blk_drewN ?_ _ | refine blk_drew ?_ | refine blk_alloc ?_ _)); exact BK117.out) hb); have n1_ := Aside0.mk (below_step (by repeat (first | (with_reducible first | exact HB.out | apply below_alloc | apply pw_below_drewN | apply below_drew1 | refine below_set ?_ GE117.out) | exact HB.out)) hb); clear BK117; clear HB; have BK117 := n0_; have HB := n1_; clear n0_ n1_; (try clear hb); (try clear hb2); (try clear hk); (try clear hi); have hcz9_0 : w8.cell? ⟨gb117, 0, none⟩ = some (.slice A0_0 l0_0.length c0_0) := (blk_cell BK117.out 0).trans rfl; have hcz9_1 : w8.cell? ⟨gb117, 1, none⟩ = some (.slice A0_1 l0_1.length c0_1) := (blk_cell BK117.out 1).trans rfl; have hfz9_0 := blk_frozen BK117.out 0; have hfz9_1 := blk_frozen BK117.out 1) | (go_at_call 33; (with_reducible refine (flux_Marks.calls k _ _ l0_0 t119 t120 _ ?side1 ?side2 A5.out).mono ?_); (case side1 => repeat (first | exact (Kd.C_below HR0_0.out HB.out) | (with_reducible refine Kd.C_alloc ?_ _) | (with_reducible refine Kd.C_drewN ?_ _) | (with_reducible refine Kd.C_drew ?_))); (case side2 => exact HC0_0.out); rintro e w10 ⟨v121, rfl, ho0, hb⟩; have n0_ := Aside0.mk (Kd.R_lower ho0 (below_size (by repeat (first | (with_reducible first | exact HB.out | apply below_alloc | apply pw_below_drewN | apply below_drew1 | refine below_set ?_ GE117.out) | exact HB.out)))); have n1_ := Aside0.mk (blk_below (g := gb117) (o := .cells #[.slice A0_0 l0_0.length c0_0, .slice A0_1 l0_1.length c0_1] 73 (0, 0)) (by (with_reducible repeat (first | refine blk_drewN ?_ _ | refine blk_drew ?_ | refine blk_alloc ?_ _)); exact BK117.out) hb); have n2_ := Aside0.mk (below_step (by repeat (first | (with_reducible first | exact HB.out | apply below_alloc | apply pw_below_drewN | apply below_drew1 | refine below_set ?_ GE117.out) | exact HB.out)) hb); clear BK117; clear HB; have HO122 := n0_; have BK117 := n1_; have HB := n2_; clear n0_ n1_ n2_; (try clear hb); (try clear hb2); (try clear hk); (try clear hi); (try clear ho0); have hcz11_0 : w10.cell? ⟨gb117, 0, none⟩ = some (.slice A0_0 l0_0.length c0_0) := (blk_cell BK117.out 0).trans rfl; have hcz11_1 : w10.cell? ⟨gb117, 1, none⟩ = some (.slice A0_1 l0_1.length c0_1) := (blk_cell BK117.out 1).trans rfl; have hfz11_0 := blk_frozen BK117.out 0; have hfz11_1 := blk_frozen BK117.out 1)); try go_wp2_with (first | ((with_reducible refine gate_dst (N := 2) rfl ?_); refine box_event ?hg (N := 2) ?hd (cs := #[.slice A0_0 l0_0.length c0_0, .slice A0_1 l0_1.length c0_1]) (t := 73) ?hr ?_; (case hd => rfl); (case hg => rfl); (case hr => first | (go_simp; done) | (go_simp; rfl)); intro gb117 hg w6 hbox hb; have n0_ := Aside0.mk (below_step (by repeat (first | (with_reducible first | exact HB.out | apply below_alloc | apply pw_below_drewN | apply below_drew1) | exact HB.out)) hb); have n1_ := Aside0.mk (hbox); have n2_ := Aside0.mk ((by rw [hg]; exact (below_size (by repeat (first | (with_reducible first | exact HB.out | apply below_alloc | apply pw_below_drewN | apply below_drew1) | exact HB.out))) : w.heap.size ≤ gb117)); have n3_ := Aside0.mk ((by rw [hg]; exact (below_size (by repeat (first | (with_reducible first | exact HB.out | apply below_alloc | apply pw_below_drewN | apply below_drew1) | exact HB.out))) : w.heap.size ≤ gb117)); clear HB; have HB := n0_; have BK117 := n1_; have GW117 := n2_; have GE117 := n3_; clear n0_ n1_ n2_ n3_; clear hb hbox hg; have hcz7_0 : w6.cell? ⟨gb117, 0, none⟩ = some (.slice A0_0 l0_0.length c0_0) := (blk_cell BK117.out 0).trans rfl; have hcz7_1 : w6.cell? ⟨gb117, 1, none⟩ = some (.slice A0_1 l0_1.length c0_1) := (blk_cell BK117.out 1).trans rfl; have hfz7_0 := blk_frozen BK117.out 0; have hfz7_1 := blk_frozen BK117.out 1) | (go_at_call 58; (with_reducible refine (weak_Check.calls k _ _ l0_0 _ _ l0_1 t118 _ ?side1 ?side2 ?side3 ?side4 A3.out).mono ?_); (case side1 => repeat (first | exact (Kd.C_below HR0_0.out HB.out) | (with_reducible refine Kd.C_alloc ?_ _) | (with_reducible refine Kd.C_drewN ?_ _) | (with_reducible refine Kd.C_drew ?_))); (case side2 => exact HC0_0.out); (case side3 => repeat (first | exact (Kd.C_below HR0_1.out HB.out) | (with_reducible refine Kd.C_alloc ?_ _) | (with_reducible refine Kd.C_drewN ?_ _) | (with_reducible refine Kd.C_drew ?_))); (case side4 => exact HC0_1.out); rintro e w8 ⟨rfl, hb⟩; have n0_ := Aside0.mk (blk_below (g := gb117) (o := .cells #[.slice A0_0 l0_0.length c0_0, .slice A0_1 l0_1.length c0_1] 73 (0, 0)) (by (with_reducible repeat (first | refine blk_drewN ?_ _ | refine blk_drew ?_ | refine blk_alloc ?_ _)); exact BK117.out) hb); have n1_ := Aside0.mk (below_step (by repeat (first | (with_reducible first | exact HB.out | apply below_alloc | apply pw_below_drewN | apply below_drew1 | refine below_set ?_ GE117.out) | exact HB.out)) hb); clear BK117; clear HB; have BK117 := n0_; have HB := n1_; clear n0_ n1_; (try clear hb); (try clear hb2); (try clear hk); (try clear hi); have hcz9_0 : w8.cell? ⟨gb117, 0, none⟩ = some (.slice A0_0 l0_0.length c0_0) := (blk_cell BK117.out 0).trans rfl; have hcz9_1 : w8.cell? ⟨gb117, 1, none⟩ = some (.slice A0_1 l0_1.length c0_1) := (blk_cell BK117.out 1).trans rfl; have hfz9_0 := blk_frozen BK117.out 0; have hfz9_1 := blk_frozen BK117.out 1) | (go_at_call 33; (with_reducible refine (flux_Marks.calls k _ _ l0_0 t119 t120 _ ?side1 ?side2 A5.out).mono ?_); (case side1 => repeat (first | exact (Kd.C_below HR0_0.out HB.out) | (with_reducible refine Kd.C_alloc ?_ _) | (with_reducible refine Kd.C_drewN ?_ _) | (with_reducible refine Kd.C_drew ?_))); (case side2 => exact HC0_0.out); rintro e w10 ⟨v121, rfl, ho0, hb⟩; have n0_ := Aside0.mk (Kd.R_lower ho0 (below_size (by repeat (first | (with_reducible first | exact HB.out | apply below_alloc | apply pw_below_drewN | apply below_drew1 | refine below_set ?_ GE117.out) | exact HB.out)))); have n1_ := Aside0.mk (blk_below (g := gb117) (o := .cells #[.slice A0_0 l0_0.length c0_0, .slice A0_1 l0_1.length c0_1] 73 (0, 0)) (by (with_reducible repeat (first | refine blk_drewN ?_ _ | refine blk_drew ?_ | refine blk_alloc ?_ _)); exact BK117.out) hb); have n2_ := Aside0.mk (below_step (by repeat (first | (with_reducible first | exact HB.out | apply below_alloc | apply pw_below_drewN | apply below_drew1 | refine below_set ?_ GE117.out) | exact HB.out)) hb); clear BK117; clear HB; have HO122 := n0_; have BK117 := n1_; have HB := n2_; clear n0_ n1_ n2_; (try clear hb); (try clear hb2); (try clear hk); (try clear hi); (try clear ho0); have hcz11_0 : w10.cell? ⟨gb117, 0, none⟩ = some (.slice A0_0 l0_0.length c0_0) := (blk_cell BK117.out 0).trans rfl; have hcz11_1 : w10.cell? ⟨gb117, 1, none⟩ = some (.slice A0_1 l0_1.length c0_1) := (blk_cell BK117.out 1).trans rfl; have hfz11_0 := blk_frozen BK117.out 0; have hfz11_1 := blk_frozen BK117.out 1)))
    go_loopg [9, 32] k (fun kq v9 v32 w' => ∃ (x7_1 : List Int) (x9_1 : Int) (x32_1 : Int), v9 = .int .u64 x9_1 ∧ v32 = .int .i64 x32_1 ∧ Aside0 (weak_Read.l0 kq x7_1 x9_1 l0_1 (l0_1.length : Int) x32_1 = some (r1, r2)) ∧ Aside0 (kq ≤ k) ∧ Aside0 (Kd.R (Kd.int .i64) 3 w' w.heap.size (fun _ => True) v121 x7_1) ∧ Aside0 (w'.heap[gb117]? = some (.cells #[(.slice A0_0 l0_0.length c0_0), (.slice A0_1 l0_1.length c0_1)] 73 (0, 0))) ∧ Aside0 (Below w.heap.size w w'))
    case atStart => exact ⟨(t119), (IntKind.u64.wrap (a1)), (0), (by first | rfl | (simp; done) | (simp [*]; done)), (by first | rfl | (simp; done) | (simp [*]; done)), H', ⟨Nat.le_refl _⟩, ⟨by (with_reducible repeat (first | apply Kd.R_alloc | apply Kd.R_drewN | apply Kd.R_drew)); exact HO122.out⟩, ⟨by (with_reducible repeat (first | refine blk_drewN ?_ _ | refine blk_drew ?_ | refine blk_alloc ?_ _)); exact BK117.out⟩, ⟨by repeat (first | (with_reducible first | exact HB.out | apply below_alloc | apply pw_below_drewN | apply below_drew1 | refine below_set ?_ GE117.out) | exact HB.out)⟩⟩
    case round =>
      clear H'
      try clear p2
      try clear c4
      try clear c4b0
      try clear c4b1
      try clear c5
      try clear hcz11_0
      try clear hcz11_1
      try clear hcz7_0
      try clear hcz7_1
      try clear hcz9_0
      try clear hcz9_1
      try clear hfz11_0
      try clear hfz11_1
      try clear hfz7_0
      try clear hfz7_1
      try clear hfz9_0
      try clear hfz9_1
      obtain ⟨x7_1, x9_1, x32_1, rfl, rfl, HA, HK1, HO_7, BK117, HB⟩ := hrel
      cases gk with
      | zero => exact absurd HA.out (by simp [weak_Read.l0])
      | succ k1 =>
        have H := HA.out
        clear HA
        simp only [weak_Read.l0] at H
        by_cases c12 : x32_1 < (l0_1.length : Int)
        · rw [if_pos c12] at H
          have c12b0 : decide (x32_1 < (l0_1.length : Int)) = true := decide_eq_true c12
          clear c12
          by_cases c13 : 0 ≤ x32_1
          · rw [if_pos c13] at H
            have c13b0 : decide (0 ≤ x32_1) = true := decide_eq_true c13
            clear c13
            by_cases c14 : x32_1 < (l0_1.length : Int)
            · rw [if_pos c14] at H
              have c14b0 : decide (x32_1 < (l0_1.length : Int)) = true := decide_eq_true c14
              clear c14
              have H' := Aside0.mk H
              clear H
              have p127 : 0 ≤ (x32_1 : Int) := of_decide_eq_true (by first | (with_reducible assumption) | assumption)
              have q127 : x32_1 < (l0_1.length : Int) := of_decide_eq_true (by first | (with_reducible assumption) | assumption)
              obtain ⟨ad127, e127, hx127_0, hx127_1, hx127_2⟩ := at_T122 HR0_1.out x32_1 p127 q127
              cases e127
              replace hx127_0 := (HB.out.cell (World.block_lt_of_cell? w _ hx127_0)).trans hx127_0
              replace hx127_1 := (HB.out.cell (World.block_lt_of_cell? w _ hx127_1)).trans hx127_1
              replace hx127_2 := (HB.out.cell (World.block_lt_of_cell? w _ hx127_2)).trans hx127_2
              replace p127 := eq_true p127
              replace q127 := eq_true q127
              go_wp2_with (first | ((with_reducible refine gate_dst (N := 11) rfl ?_); refine box_event ?hg (N := 11) ?hd (cs := #[.int .i64 0, .int .i64 0, .int .i64 0]) (t := 122) ?hr ?_; (case hd => rfl); (case hg => rfl); (case hr => first | (go_simp; done) | (go_simp; rfl)); intro gb128 hg w15 hbox hb; have n0_ := Aside0.mk (Kd.R_below (by (with_reducible repeat (first | apply Kd.R_alloc | apply Kd.R_drewN | apply Kd.R_drew)); exact HO_7.out) hb); have n1_ := Aside0.mk (blk_below (g := gb117) (o := .cells #[.slice A0_0 l0_0.length c0_0, .slice (some ad127) l0_1.length c0_1] 73 (0, 0)) (by (with_reducible repeat (first | refine blk_drewN ?_ _ | refine blk_drew ?_ | refine blk_alloc ?_ _)); exact BK117.out) hb); have n2_ := Aside0.mk (below_step (by repeat (first | (with_reducible first | exact HB.out | apply below_alloc | apply pw_below_drewN | apply below_drew1 | refine below_set ?_ GE117.out) | exact HB.out)) hb); have n3_ := Aside0.mk (hbox); have n4_ := Aside0.mk ((by rw [hg]; exact (below_size (by repeat (first | (with_reducible first | exact HB.out | apply below_alloc | apply pw_below_drewN | apply below_drew1 | refine below_set ?_ GE117.out) | exact HB.out))) : w.heap.size ≤ gb128)); have n5_ := Aside0.mk ((by rw [hg]; exact (below_size (by repeat (first | (with_reducible first | exact HB.out | apply below_alloc | apply pw_below_drewN | apply below_drew1 | refine below_set ?_ GE117.out) | exact HB.out))) : w.heap.size ≤ gb128)); have n6_ := Aside0.mk ((by rw [hg]; exact Nat.ne_of_lt (blk_lt (g := gb117) (o := .cells #[.slice A0_0 l0_0.length c0_0, .slice (some ad127) l0_1.length c0_1] 73 (0, 0)) (by (with_reducible repeat (first | refine blk_drewN ?_ _ | refine blk_drew ?_ | refine blk_alloc ?_ _)); exact BK117.out)) : gb117 ≠ gb128)); have n7_ := Aside0.mk ((by rw [hg]; exact Nat.ne_of_gt (blk_lt (g := gb117) (o := .cells #[.slice A0_0 l0_0.length c0_0, .slice (some ad127) l0_1.length c0_1] 73 (0, 0)) (by (with_reducible repeat (first | refine blk_drewN ?_ _ | refine blk_drew ?_ | refine blk_alloc ?_ _)); exact BK117.out)) : gb128 ≠ gb117)); clear HO_7; clear BK117; clear HB; have HO_7 := n0_; have BK117 := n1_; have HB := n2_; have BK128 := n3_; have GW128 := n4_; have GE128 := n5_; have NB117_128 := n6_; have NB128_117 := n7_; clear n0_ n1_ n2_ n3_ n4_ n5_ n6_ n7_; clear hb hbox hg; have hnb16 := NB128_117.out; have hnc16 := NB117_128.out; have hcz17_0 : w15.cell? ⟨gb128, 0, none⟩ = some (.int .i64 0) := (blk_cell BK128.out 0).trans rfl; have hcz17_1 : w15.cell? ⟨gb128, 1, none⟩ = some (.int .i64 0) := (blk_cell BK128.out 1).trans rfl; have hcz17_2 : w15.cell? ⟨gb128, 2, none⟩ = some (.int .i64 0) := (blk_cell BK128.out 2).trans rfl; have hfz17_0 := blk_frozen BK128.out 0; have hfz17_1 := blk_frozen BK128.out 1; have hfz17_2 := blk_frozen BK128.out 2))
              repeat (go_quiet (first | ((with_reducible refine gate_dst (N := 11) rfl ?_); refine box_event ?hg (N := 11) ?hd (cs := #[.int .i64 0, .int .i64 0, .int .i64 0]) (t := 122) ?hr ?_; (case hd => rfl); (case hg => rfl); (case hr => first | (go_simp; done) | (go_simp; rfl)); intro gb128 hg w15 hbox hb; have n0_ := Aside0.mk (Kd.R_below (by (with_reducible repeat (first | apply Kd.R_alloc | apply Kd.R_drewN | apply Kd.R_drew)); exact HO_7.out) hb); have n1_ := Aside0.mk (blk_below (g := gb117) (o := .cells #[.slice A0_0 l0_0.length c0_0, .slice (some ad127) l0_1.length c0_1] 73 (0, 0)) (by (with_reducible repeat (first | refine blk_drewN ?_ _ | refine blk_drew ?_ | refine blk_alloc ?_ _)); exact BK117.out) hb); have n2_ := Aside0.mk (below_step (by repeat (first | (with_reducible first | exact HB.out | apply below_alloc | apply pw_below_drewN | apply below_drew1 | refine below_set ?_ GE117.out) | exact HB.out)) hb); have n3_ := Aside0.mk (hbox); have n4_ := Aside0.mk ((by rw [hg]; exact (below_size (by repeat (first | (with_reducible first | exact HB.out | apply below_alloc | apply pw_below_drewN | apply below_drew1 | refine below_set ?_ GE117.out) | exact HB.out))) : w.heap.size ≤ gb128)); have n5_ := Aside0.mk ((by rw [hg]; exact (below_size (by repeat (first | (with_reducible first | exact HB.out | apply below_alloc | apply pw_below_drewN | apply below_drew1 | refine below_set ?_ GE117.out) | exact HB.out))) : w.heap.size ≤ gb128)); have n6_ := Aside0.mk ((by rw [hg]; exact Nat.ne_of_lt (blk_lt (g := gb117) (o := .cells #[.slice A0_0 l0_0.length c0_0, .slice (some ad127) l0_1.length c0_1] 73 (0, 0)) (by (with_reducible repeat (first | refine blk_drewN ?_ _ | refine blk_drew ?_ | refine blk_alloc ?_ _)); exact BK117.out)) : gb117 ≠ gb128)); have n7_ := Aside0.mk ((by rw [hg]; exact Nat.ne_of_gt (blk_lt (g := gb117) (o := .cells #[.slice A0_0 l0_0.length c0_0, .slice (some ad127) l0_1.length c0_1] 73 (0, 0)) (by (with_reducible repeat (first | refine blk_drewN ?_ _ | refine blk_drew ?_ | refine blk_alloc ?_ _)); exact BK117.out)) : gb128 ≠ gb117)); clear HO_7; clear BK117; clear HB; have HO_7 := n0_; have BK117 := n1_; have HB := n2_; have BK128 := n3_; have GW128 := n4_; have GE128 := n5_; have NB117_128 := n6_; have NB128_117 := n7_; clear n0_ n1_ n2_ n3_ n4_ n5_ n6_ n7_; clear hb hbox hg; have hnb16 := NB128_117.out; have hnc16 := NB117_128.out; have hcz17_0 : w15.cell? ⟨gb128, 0, none⟩ = some (.int .i64 0) := (blk_cell BK128.out 0).trans rfl; have hcz17_1 : w15.cell? ⟨gb128, 1, none⟩ = some (.int .i64 0) := (blk_cell BK128.out 1).trans rfl; have hcz17_2 : w15.cell? ⟨gb128, 2, none⟩ = some (.int .i64 0) := (blk_cell BK128.out 2).trans rfl; have hfz17_0 := blk_frozen BK128.out 0; have hfz17_1 := blk_frozen BK128.out 1; have hfz17_2 := blk_frozen BK128.out 2)); try go_wp2_with (first | ((with_reducible refine gate_dst (N := 11) rfl ?_); refine box_event ?hg (N := 11) ?hd (cs := #[.int .i64 0, .int .i64 0, .int .i64 0]) (t := 122) ?hr ?_; (case hd => rfl); (case hg => rfl); (case hr => first | (go_simp; done) | (go_simp; rfl)); intro gb128 hg w15 hbox hb; have n0_ := Aside0.mk (Kd.R_below (by (with_reducible repeat (first | apply Kd.R_alloc | apply Kd.R_drewN | apply Kd.R_drew)); exact HO_7.out) hb); have n1_ := Aside0.mk (blk_below (g := gb117) (o := .cells #[.slice A0_0 l0_0.length c0_0, .slice (some ad127) l0_1.length c0_1] 73 (0, 0)) (by (with_reducible repeat (first | refine blk_drewN ?_ _ | refine blk_drew ?_ | refine blk_alloc ?_ _)); exact BK117.out) hb); have n2_ := Aside0.mk (below_step (by repeat (first | (with_reducible first | exact HB.out | apply below_alloc | apply pw_below_drewN | apply below_drew1 | refine below_set ?_ GE117.out) | exact HB.out)) hb); have n3_ := Aside0.mk (hbox); have n4_ := Aside0.mk ((by rw [hg]; exact (below_size (by repeat (first | (with_reducible first | exact HB.out | apply below_alloc | apply pw_below_drewN | apply below_drew1 | refine below_set ?_ GE117.out) | exact HB.out))) : w.heap.size ≤ gb128)); have n5_ := Aside0.mk ((by rw [hg]; exact (below_size (by repeat (first | (with_reducible first | exact HB.out | apply below_alloc | apply pw_below_drewN | apply below_drew1 | refine below_set ?_ GE117.out) | exact HB.out))) : w.heap.size ≤ gb128)); have n6_ := Aside0.mk ((by rw [hg]; exact Nat.ne_of_lt (blk_lt (g := gb117) (o := .cells #[.slice A0_0 l0_0.length c0_0, .slice (some ad127) l0_1.length c0_1] 73 (0, 0)) (by (with_reducible repeat (first | refine blk_drewN ?_ _ | refine blk_drew ?_ | refine blk_alloc ?_ _)); exact BK117.out)) : gb117 ≠ gb128)); have n7_ := Aside0.mk ((by rw [hg]; exact Nat.ne_of_gt (blk_lt (g := gb117) (o := .cells #[.slice A0_0 l0_0.length c0_0, .slice (some ad127) l0_1.length c0_1] 73 (0, 0)) (by (with_reducible repeat (first | refine blk_drewN ?_ _ | refine blk_drew ?_ | refine blk_alloc ?_ _)); exact BK117.out)) : gb128 ≠ gb117)); clear HO_7; clear BK117; clear HB; have HO_7 := n0_; have BK117 := n1_; have HB := n2_; have BK128 := n3_; have GW128 := n4_; have GE128 := n5_; have NB117_128 := n6_; have NB128_117 := n7_; clear n0_ n1_ n2_ n3_ n4_ n5_ n6_ n7_; clear hb hbox hg; have hnb16 := NB128_117.out; have hnc16 := NB117_128.out; have hcz17_0 : w15.cell? ⟨gb128, 0, none⟩ = some (.int .i64 0) := (blk_cell BK128.out 0).trans rfl; have hcz17_1 : w15.cell? ⟨gb128, 1, none⟩ = some (.int .i64 0) := (blk_cell BK128.out 1).trans rfl; have hcz17_2 : w15.cell? ⟨gb128, 2, none⟩ = some (.int .i64 0) := (blk_cell BK128.out 2).trans rfl; have hfz17_0 := blk_frozen BK128.out 0; have hfz17_1 := blk_frozen BK128.out 1; have hfz17_2 := blk_frozen BK128.out 2)))
              go_loopg [9, 12] k1 (fun kq v9 v12 w' => ∃ (x7_2 : List Int) (x9_2 : Int) (x12_2 : Int), v9 = .int .u64 x9_2 ∧ v12 = .int .i64 x12_2 ∧ Aside0 (weak_Read.l1 kq x7_2 x9_2 x12_2 l0_1 (l0_1.length : Int) x32_1 ((rd_T122 l0_1 x32_1).f0) ((rd_T122 l0_1 x32_1).f1) ((rd_T122 l0_1 x32_1).f2) = some (r1, r2)) ∧ Aside0 (kq ≤ k1) ∧ Aside0 (Kd.R (Kd.int .i64) 3 w' w.heap.size (fun _ => True) v121 x7_2) ∧ Aside0 (w'.heap[gb117]? = some (.cells #[(.slice A0_0 l0_0.length c0_0), (.slice (some ad127) l0_1.length c0_1)] 73 (0, 0))) ∧ Aside0 (w'.heap[gb128]? = some (.cells #[.int .i64 ((rd_T122 l0_1 x32_1).f0), .int .i64 ((rd_T122 l0_1 x32_1).f1), .int .i64 ((rd_T122 l0_1 x32_1).f2)] 122 (0, 0))) ∧ Aside0 (Below w.heap.size w w'))
              case atStart => exact ⟨(x7_1), (x9_1), ((rd_T122 l0_1 x32_1).f0), (by first | rfl | (simp; done) | (simp [*]; done)), (by first | rfl | (simp; done) | (simp [*]; done)), H', ⟨Nat.le_refl _⟩, ⟨by (with_reducible repeat (first | apply Kd.R_alloc | apply Kd.R_drewN | apply Kd.R_drew)); exact Kd.R_mono (Kd.R_far (p := ⟨gb128, 2, none⟩) (Kd.R_far (p := ⟨gb128, 1, none⟩) (Kd.R_far (p := ⟨gb128, 0, none⟩) (Kd.R_types HO_7.out BK128.out (by decide)) (fun _ hk => hk.2) (.int .i64 ((rd_T122 l0_1 x32_1).f0))) (fun _ hk => hk.2) (.int .i64 ((rd_T122 l0_1 x32_1).f1))) (fun _ hk => hk.2) (.int .i64 ((rd_T122 l0_1 x32_1).f2))) (fun _ hk => trivial)⟩, ⟨by (with_reducible repeat (first | refine blk_drewN ?_ _ | refine blk_drew ?_ | refine blk_alloc ?_ _)); refine blk_far ?_ NB117_128.out _; (with_reducible repeat (first | refine blk_drewN ?_ _ | refine blk_drew ?_ | refine blk_alloc ?_ _)); refine blk_far ?_ NB117_128.out _; (with_reducible repeat (first | refine blk_drewN ?_ _ | refine blk_drew ?_ | refine blk_alloc ?_ _)); refine blk_far ?_ NB117_128.out _; (with_reducible repeat (first | refine blk_drewN ?_ _ | refine blk_drew ?_ | refine blk_alloc ?_ _)); exact BK117.out⟩, ⟨by (with_reducible repeat (first | refine blk_drewN ?_ _ | refine blk_drew ?_ | refine blk_alloc ?_ _)); refine blk_put (cs := #[.int .i64 ((rd_T122 l0_1 x32_1).f0), .int .i64 ((rd_T122 l0_1 x32_1).f1), .int .i64 0]) ?_ 2 _ rfl; (with_reducible repeat (first | refine blk_drewN ?_ _ | refine blk_drew ?_ | refine blk_alloc ?_ _)); refine blk_put (cs := #[.int .i64 ((rd_T122 l0_1 x32_1).f0), .int .i64 0, .int .i64 0]) ?_ 1 _ rfl; (with_reducible repeat (first | refine blk_drewN ?_ _ | refine blk_drew ?_ | refine blk_alloc ?_ _)); refine blk_put (cs := #[.int .i64 0, .int .i64 0, .int .i64 0]) ?_ 0 _ rfl; (with_reducible repeat (first | refine blk_drewN ?_ _ | refine blk_drew ?_ | refine blk_alloc ?_ _)); exact BK128.out⟩, ⟨by repeat (first | (with_reducible first | exact HB.out | apply below_alloc | apply pw_below_drewN | apply below_drew1 | refine below_set ?_ GE117.out | refine below_set ?_ GE128.out) | exact HB.out)⟩⟩
              case round =>
                clear H'
                try clear c1
                try clear p1
                try clear q1
                try clear hx1
                try clear p2
                try clear c4
                try clear c4b0
                try clear c4b1
                try clear c5
                try clear c12
                try clear c12b0
                try clear p12
                try clear q12
                try clear hx12
                try clear c13
                try clear c13b0
                try clear c14
                try clear c14b0
                try clear c16
                try clear hcz11_0
                try clear hcz11_1
                try clear hcz17_0
                try clear hcz17_1
                try clear hcz17_2
                try clear hcz7_0
                try clear hcz7_1
                try clear hcz9_0
                try clear hcz9_1
                try clear hfz11_0
                try clear hfz11_1
                try clear hfz17_0
                try clear hfz17_1
                try clear hfz17_2
                try clear hfz7_0
                try clear hfz7_1
                try clear hfz9_0
                try clear hfz9_1
                try clear hx127_0
                try clear hx127_1
                try clear hx127_2
                try clear p127
                try clear p2
                try clear q127
                obtain ⟨x7_2, x9_2, x12_2, rfl, rfl, HA, HK2, HO_7, BK117, BK128, HB⟩ := hrel
                cases gk with
                | zero => exact absurd HA.out (by simp [weak_Read.l1])
                | succ k2 =>
                  have H := HA.out
                  clear HA
                  simp only [weak_Read.l1] at H
                  by_cases c18 : x12_2 < ((rd_T122 l0_1 x32_1).f1)
                  · rw [if_pos c18] at H
                    have c18b0 : decide (x12_2 < ((rd_T122 l0_1 x32_1).f1)) = true := decide_eq_true c18
                    clear c18
                    replace H := Option.bind_eq_some_iff.mp H
                    obtain ⟨t129, A190, H⟩ := H
                    replace H : (if (IntKind.u64.wrap (wrap64 ((wrap64 (2 * ((rd_T122 l0_1 x32_1).f2))) + 1))) = 0 then (none) else (if 0 ≤ x12_2 then (if x12_2 < (x7_2.length : Int) then (if x12_2 > 0 then (if 0 ≤ (wrap64 (x12_2 - 1)) then (if (wrap64 (x12_2 - 1)) < (x7_2.length : Int) then (if (wrap64 (x12_2 + 1)) < (x7_2.length : Int) then (if 0 ≤ (wrap64 (x12_2 + 1)) then (weak_Read.l1 k2 (x7_2.set (x12_2 : Int).toNat (mx (wrap64 ((rd x7_2 (wrap64 (x12_2 - 1))) + 1)) (mn (wrap64 ((rd x7_2 (wrap64 (x12_2 + 1))) - 1)) (wrap64 ((rd x7_2 x12_2) + (wrap64 ((wrap64 (Int.tmod (t129 / 8589934592) (IntKind.u64.wrap (wrap64 ((wrap64 (2 * ((rd_T122 l0_1 x32_1).f2))) + 1))))) - ((rd_T122 l0_1 x32_1).f2)))))))) t129 (wrap64 (x12_2 + 1)) l0_1 (l0_1.length : Int) x32_1 ((rd_T122 l0_1 x32_1).f0) ((rd_T122 l0_1 x32_1).f1) ((rd_T122 l0_1 x32_1).f2)) else (none)) else (weak_Read.l1 k2 (x7_2.set (x12_2 : Int).toNat (mx (wrap64 ((rd x7_2 (wrap64 (x12_2 - 1))) + 1)) (mn (wrap64 ((rd x7_2 x12_2) + 100000)) (wrap64 ((rd x7_2 x12_2) + (wrap64 ((wrap64 (Int.tmod (t129 / 8589934592) (IntKind.u64.wrap (wrap64 ((wrap64 (2 * ((rd_T122 l0_1 x32_1).f2))) + 1))))) - ((rd_T122 l0_1 x32_1).f2)))))))) t129 (wrap64 (x12_2 + 1)) l0_1 (l0_1.length : Int) x32_1 ((rd_T122 l0_1 x32_1).f0) ((rd_T122 l0_1 x32_1).f1) ((rd_T122 l0_1 x32_1).f2))) else (none)) else (none)) else (if (wrap64 (x12_2 + 1)) < (x7_2.length : Int) then (if 0 ≤ (wrap64 (x12_2 + 1)) then (weak_Read.l1 k2 (x7_2.set (x12_2 : Int).toNat (mx 1 (mn (wrap64 ((rd x7_2 (wrap64 (x12_2 + 1))) - 1)) (wrap64 ((rd x7_2 x12_2) + (wrap64 ((wrap64 (Int.tmod (t129 / 8589934592) (IntKind.u64.wrap (wrap64 ((wrap64 (2 * ((rd_T122 l0_1 x32_1).f2))) + 1))))) - ((rd_T122 l0_1 x32_1).f2)))))))) t129 (wrap64 (x12_2 + 1)) l0_1 (l0_1.length : Int) x32_1 ((rd_T122 l0_1 x32_1).f0) ((rd_T122 l0_1 x32_1).f1) ((rd_T122 l0_1 x32_1).f2)) else (none)) else (weak_Read.l1 k2 (x7_2.set (x12_2 : Int).toNat (mx 1 (mn (wrap64 ((rd x7_2 x12_2) + 100000)) (wrap64 ((rd x7_2 x12_2) + (wrap64 ((wrap64 (Int.tmod (t129 / 8589934592) (IntKind.u64.wrap (wrap64 ((wrap64 (2 * ((rd_T122 l0_1 x32_1).f2))) + 1))))) - ((rd_T122 l0_1 x32_1).f2)))))))) t129 (wrap64 (x12_2 + 1)) l0_1 (l0_1.length : Int) x32_1 ((rd_T122 l0_1 x32_1).f0) ((rd_T122 l0_1 x32_1).f1) ((rd_T122 l0_1 x32_1).f2)))) else (none)) else (none))) = some (r1, r2) := H
                    have A19 := Aside0.mk A190
                    clear A190
                    by_cases c20 : (IntKind.u64.wrap (wrap64 ((wrap64 (2 * ((rd_T122 l0_1 x32_1).f2))) + 1))) = 0
                    · rw [if_pos c20] at H
                      exact absurd H (by simp)
                    · rw [if_neg c20] at H
                      have c20b0 : ((IntKind.u64.wrap (wrap64 ((wrap64 (2 * ((rd_T122 l0_1 x32_1).f2))) + 1))) == 0) = false := beq_eq_false_iff_ne.mpr c20
                      have c20b1 : ((IntKind.u64.wrap (wrap64 ((wrap64 (2 * ((rd_T122 l0_1 x32_1).f2))) + 1))) != 0) = true := bne_iff_ne.mpr c20
                      by_cases c21 : 0 ≤ x12_2
                      · rw [if_pos c21] at H
                        have c21b0 : decide (0 ≤ x12_2) = true := decide_eq_true c21
                        clear c21
                        by_cases c22 : x12_2 < (x7_2.length : Int)
                        · rw [if_pos c22] at H
                          have c22b0 : decide (x12_2 < (x7_2.length : Int)) = true := decide_eq_true c22
                          clear c22
                          by_cases c23 : x12_2 > 0
                          · rw [if_pos c23] at H
                            have c23b0 : decide (0 < x12_2) = true := decide_eq_true c23
                            clear c23
                            obtain ⟨ji24, hji24⟩ : ∃ j_ : Int, (wrap64 (x12_2 - 1)) = j_ := ⟨_, rfl⟩
                            replace H : (if 0 ≤ (ji24) then (if (ji24) < (x7_2.length : Int) then (if (wrap64 (x12_2 + 1)) < (x7_2.length : Int) then (if 0 ≤ (wrap64 (x12_2 + 1)) then (weak_Read.l1 k2 (x7_2.set (x12_2 : Int).toNat (mx (wrap64 ((rd x7_2 (ji24)) + 1)) (mn (wrap64 ((rd x7_2 (wrap64 (x12_2 + 1))) - 1)) (wrap64 ((rd x7_2 x12_2) + (wrap64 ((wrap64 (Int.tmod (t129 / 8589934592) (IntKind.u64.wrap (wrap64 ((wrap64 (2 * ((rd_T122 l0_1 x32_1).f2))) + 1))))) - ((rd_T122 l0_1 x32_1).f2)))))))) t129 (wrap64 (x12_2 + 1)) l0_1 (l0_1.length : Int) x32_1 ((rd_T122 l0_1 x32_1).f0) ((rd_T122 l0_1 x32_1).f1) ((rd_T122 l0_1 x32_1).f2)) else (none)) else (weak_Read.l1 k2 (x7_2.set (x12_2 : Int).toNat (mx (wrap64 ((rd x7_2 (ji24)) + 1)) (mn (wrap64 ((rd x7_2 x12_2) + 100000)) (wrap64 ((rd x7_2 x12_2) + (wrap64 ((wrap64 (Int.tmod (t129 / 8589934592) (IntKind.u64.wrap (wrap64 ((wrap64 (2 * ((rd_T122 l0_1 x32_1).f2))) + 1))))) - ((rd_T122 l0_1 x32_1).f2)))))))) t129 (wrap64 (x12_2 + 1)) l0_1 (l0_1.length : Int) x32_1 ((rd_T122 l0_1 x32_1).f0) ((rd_T122 l0_1 x32_1).f1) ((rd_T122 l0_1 x32_1).f2))) else (none)) else (none)) = some (r1, r2) := by first | (rw [hji24] at H; exact H) | (simp only [hji24] at H ⊢; exact H)
                            (try rw [hji24] at A19)
                            have hji24w : (IntKind.i64.wrap (x12_2 - 1)) = ji24 := (i64_w _).trans hji24
                            by_cases c25 : 0 ≤ (ji24)
                            · rw [if_pos c25] at H
                              have c25b0 : decide (0 ≤ (ji24)) = true := decide_eq_true c25
                              clear c25
                              by_cases c26 : (ji24) < (x7_2.length : Int)
                              · rw [if_pos c26] at H
                                have c26b0 : decide ((ji24) < (x7_2.length : Int)) = true := decide_eq_true c26
                                clear c26
                                by_cases c27 : (wrap64 (x12_2 + 1)) < (x7_2.length : Int)
                                · rw [if_pos c27] at H
                                  have c27b0 : decide ((wrap64 (x12_2 + 1)) < (x7_2.length : Int)) = true := decide_eq_true c27
                                  clear c27
                                  obtain ⟨ji28, hji28⟩ : ∃ j_ : Int, (wrap64 (x12_2 + 1)) = j_ := ⟨_, rfl⟩
                                  replace H : (if 0 ≤ (ji28) then (weak_Read.l1 k2 (x7_2.set (x12_2 : Int).toNat (mx (wrap64 ((rd x7_2 (ji24)) + 1)) (mn (wrap64 ((rd x7_2 (ji28)) - 1)) (wrap64 ((rd x7_2 x12_2) + (wrap64 ((wrap64 (Int.tmod (t129 / 8589934592) (IntKind.u64.wrap (wrap64 ((wrap64 (2 * ((rd_T122 l0_1 x32_1).f2))) + 1))))) - ((rd_T122 l0_1 x32_1).f2)))))))) t129 ji28 l0_1 (l0_1.length : Int) x32_1 ((rd_T122 l0_1 x32_1).f0) ((rd_T122 l0_1 x32_1).f1) ((rd_T122 l0_1 x32_1).f2)) else (none)) = some (r1, r2) := by first | (rw [hji28] at H; exact H) | (simp only [hji28] at H ⊢; exact H)
                                  (try rw [hji28] at c27b0)
                                  (try rw [hji28] at A19)
                                  have hji28w : (IntKind.i64.wrap (x12_2 + 1)) = ji28 := (i64_w _).trans hji28
                                  by_cases c29 : 0 ≤ (ji28)
                                  · rw [if_pos c29] at H
                                    have c29b0 : decide (0 ≤ (ji28)) = true := decide_eq_true c29
                                    clear c29
                                    obtain ⟨ji30, hji30⟩ : ∃ j_ : Int, (mn (wrap64 ((rd x7_2 (ji28)) - 1)) (wrap64 ((rd x7_2 x12_2) + (wrap64 ((wrap64 (Int.tmod (t129 / 8589934592) (IntKind.u64.wrap (wrap64 ((wrap64 (2 * ((rd_T122 l0_1 x32_1).f2))) + 1))))) - ((rd_T122 l0_1 x32_1).f2)))))) = j_ := ⟨_, rfl⟩
                                    replace H : (weak_Read.l1 k2 (x7_2.set (x12_2 : Int).toNat (mx (wrap64 ((rd x7_2 (ji24)) + 1)) (ji30))) t129 ji28 l0_1 (l0_1.length : Int) x32_1 ((rd_T122 l0_1 x32_1).f0) ((rd_T122 l0_1 x32_1).f1) ((rd_T122 l0_1 x32_1).f2)) = some (r1, r2) := by first | (rw [hji30] at H; exact H) | (simp only [hji30] at H ⊢; exact H)
                                    (try rw [hji30] at A19)
                                    have hji30_ : (if (wrap64 ((rd x7_2 x12_2) + (wrap64 ((wrap64 (Int.tmod (t129 / 8589934592) (IntKind.u64.wrap (wrap64 ((wrap64 (2 * ((rd_T122 l0_1 x32_1).f2))) + 1))))) - ((rd_T122 l0_1 x32_1).f2))))) < (wrap64 ((rd x7_2 (ji28)) - 1)) then (wrap64 ((rd x7_2 x12_2) + (wrap64 ((wrap64 (Int.tmod (t129 / 8589934592) (IntKind.u64.wrap (wrap64 ((wrap64 (2 * ((rd_T122 l0_1 x32_1).f2))) + 1))))) - ((rd_T122 l0_1 x32_1).f2))))) else (wrap64 ((rd x7_2 (ji28)) - 1))) = ji30 := hji30
                                    obtain ⟨ji31, hji31⟩ : ∃ j_ : Int, (mx (wrap64 ((rd x7_2 (ji24)) + 1)) (ji30)) = j_ := ⟨_, rfl⟩
                                    replace H : (weak_Read.l1 k2 (x7_2.set (x12_2 : Int).toNat (ji31)) t129 ji28 l0_1 (l0_1.length : Int) x32_1 ((rd_T122 l0_1 x32_1).f0) ((rd_T122 l0_1 x32_1).f1) ((rd_T122 l0_1 x32_1).f2)) = some (r1, r2) := by first | (rw [hji31] at H; exact H) | (simp only [hji31] at H ⊢; exact H)
                                    (try rw [hji31] at A19)
                                    have hji31_ : (if (wrap64 ((rd x7_2 (ji24)) + 1)) < (ji30) then (ji30) else (wrap64 ((rd x7_2 (ji24)) + 1))) = ji31 := hji31
                                    obtain ⟨y134, hy134⟩ : ∃ y_ : List Int, y_ = (x7_2.set (x12_2 : Int).toNat (ji31)) := ⟨_, rfl⟩
                                    replace H : (weak_Read.l1 k2 y134 t129 ji28 l0_1 (l0_1.length : Int) x32_1 ((rd_T122 l0_1 x32_1).f0) ((rd_T122 l0_1 x32_1).f1) ((rd_T122 l0_1 x32_1).f2)) = some (r1, r2) := by first | (rw [hy134]; with_reducible exact H) | (have H2_ := (Option.bind_some _ _).symm.trans H; rw [hy134]; with_reducible exact H2_) | (have H2_ := (Option.bind_some _ _).symm.trans H; with_reducible exact H2_) | with_reducible exact H | (rw [hy134]; exact H) | exact H
                                    have Ny134 := Aside0.mk hy134
                                    clear hy134
                                    have H' := Aside0.mk H
                                    clear H
                                    have hnb33 := NB128_117.out
                                    have hnc33 := NB117_128.out
                                    have hcz34_0 : wr.cell? ⟨gb128, 0, none⟩ = some (.int .i64 ((rd_T122 l0_1 x32_1).f0)) := (blk_cell BK128.out 0).trans rfl
                                    have hcz34_1 : wr.cell? ⟨gb128, 1, none⟩ = some (.int .i64 ((rd_T122 l0_1 x32_1).f1)) := (blk_cell BK128.out 1).trans rfl
                                    have hcz34_2 : wr.cell? ⟨gb128, 2, none⟩ = some (.int .i64 ((rd_T122 l0_1 x32_1).f2)) := (blk_cell BK128.out 2).trans rfl
                                    have hfz34_0 := blk_frozen BK128.out 0
                                    have hfz34_1 := blk_frozen BK128.out 1
                                    have hfz34_2 := blk_frozen BK128.out 2
                                    go_wp2_with (first | (go_at_call 99; (with_reducible refine (weak_next.calls x9_2 t129 _ A19.out).mono ?_); rintro e w' ⟨rfl, ⟨nd, rfl⟩⟩; (try first | exact ⟨rfl, _, World.drewN_drewN _ _ _⟩ | exact ⟨rfl, _, Eq.trans (World.drewN_drewN _ _ _) (congrArg (World.drewN _) (Nat.add_assoc _ _ _))⟩); obtain ⟨Ao35, co35, eo35⟩ := Kd.R_slice HO_7.out; subst eo35; have p130 : 0 ≤ (x12_2 : Int) := of_decide_eq_true (by first | (with_reducible assumption) | assumption); have q130 : x12_2 < (x7_2.length : Int) := of_decide_eq_true (by first | (with_reducible assumption) | assumption); obtain ⟨ad130, e130, hx130_0⟩ := Kd.at_int (Kd.R_reads' HO_7.out).2.2 x12_2 p130 q130; cases e130; replace p130 := eq_true p130; replace q130 := eq_true q130; have p131 : 0 ≤ ((ji24) : Int) := of_decide_eq_true (by first | (with_reducible assumption) | assumption); have q131 : (ji24) < (x7_2.length : Int) := of_decide_eq_true (by first | (with_reducible assumption) | assumption); obtain ⟨ad131, e131, hx131_0⟩ := Kd.at_int (Kd.R_reads' HO_7.out).2.2 (ji24) p131 q131; obtain rfl : ad130 = ad131 := (by injection e131); replace p131 := eq_true p131; replace q131 := eq_true q131; have p132 : 0 ≤ ((ji28) : Int) := of_decide_eq_true (by first | (with_reducible assumption) | assumption); have q132 : (ji28) < (x7_2.length : Int) := of_decide_eq_true (by first | (with_reducible assumption) | assumption); obtain ⟨ad132, e132, hx132_0⟩ := Kd.at_int (Kd.R_reads' HO_7.out).2.2 (ji28) p132 q132; obtain rfl : ad130 = ad132 := (by injection e132); replace p132 := eq_true p132; replace q132 := eq_true q132; have p133 : 0 ≤ (x12_2 : Int) := of_decide_eq_true (by first | (with_reducible assumption) | assumption); have q133 : x12_2 < (x7_2.length : Int) := of_decide_eq_true (by first | (with_reducible assumption) | assumption); obtain ⟨ad133, e133, hx133_0⟩ := Kd.at_int (Kd.R_reads' HO_7.out).2.2 x12_2 p133 q133; obtain rfl : ad130 = ad133 := (by injection e133); replace p133 := eq_true p133; replace q133 := eq_true q133; have p32 : 0 ≤ (x12_2 : Int) := of_decide_eq_true (by first | (with_reducible assumption) | assumption); have q32 : (x12_2 : Int) < ((x7_2.length : Int) : Int) := of_decide_eq_true (by first | (with_reducible assumption) | assumption); obtain ⟨go32, co32, eo32, gb32, gl32, cl32, HG32⟩ := Kd.R_form HO_7.out (by omega); (first | cases eo32 | (injection eo32 with ea_ en_ ec_; (first | subst ea_ | (injection ea_ with ea_; subst ea_)); subst ec_; clear en_)); have GB32 := Aside0.mk gb32; have GG32 := Aside0.mk HG32; clear gb32 gl32 HG32; (first | simp only [add_plain] at hx130_0 | skip); (first | simp only [add_plain] at hx131_0 | skip); (first | simp only [add_plain] at hx132_0 | skip); (first | simp only [add_plain] at hx133_0 | skip); obtain ⟨hx32_0, hf32_0⟩ := Kd.R_celln 0 HO_7.out (x12_2 : Int) p32 q32; replace p32 := eq_true p32; replace q32 := eq_true q32; obtain ⟨hy36_, hz36_⟩ := Kd.R_celln 0 HO_7.out (x12_2 : Int) (of_decide_eq_true (by first | (with_reducible assumption) | assumption)) (of_decide_eq_true (by first | (with_reducible assumption) | assumption)); have HP36 := Kd.R_putg HO_7.out (x12_2 : Int) ji31) | ((with_reducible refine gate_store (t := 3) (p := 94) rfl ?_); (try (rw [drewN_self wr]; generalize hq_ : World.drewN wr _ = wr; have n0_ := Aside0.mk (Kd.R_at hq_ HO_7.out); have n1_ := Aside0.mk (blk_at hq_ BK117.out); have n2_ := Aside0.mk (blk_at hq_ BK128.out); have n3_ := Aside0.mk (below_at hq_ HB.out); clear hq_ HO_7 BK117 BK128 HB; have HO_7 := n0_; have BK117 := n1_; have BK128 := n2_; have HB := n3_; clear n0_ n1_ n2_ n3_; (try (obtain ⟨hy36_, hz36_⟩ := Kd.R_celln 0 HO_7.out (x12_2 : Int) (of_decide_eq_true (by first | (with_reducible assumption) | assumption)) (of_decide_eq_true (by first | (with_reducible assumption) | assumption)))); (try (have HP36 := Kd.R_putg HO_7.out (x12_2 : Int) ji31)))); refine store_event (t := 3) (p := 94) (v := ?vo_w37) (w1 := (wr.setCell ⟨go32, (x12_2 : Int).toNat, none⟩ (.int .i64 ji31))) ?hg ?ho ?hn ?hr ?_; (case ho => rfl); (case hg => rfl); (case hn => rfl); (case hr => first | (go_simp; done) | (go_simp; rfl)); intro w37 hw; have hg : wr.grownBy w37 (some go32) := (by rw [hw]; exact HP36.2); have hp_ : Kd.R (Kd.int .i64) 3 w37 w.heap.size (fun _ => True) (.slice (some ⟨go32, 0, none⟩) x7_2.length co35) y134 := (by rw [hw, Ny134.out]; exact HP36.1); clear HP36; have n0_ := Aside0.mk (hp_); have n1_ := Aside0.mk (blk_grown (g := gb117) (o := .cells #[.slice A0_0 l0_0.length c0_0, .slice (some ad127) l0_1.length c0_1] 73 (0, 0)) (by (with_reducible repeat (first | refine blk_drewN ?_ _ | refine blk_drew ?_ | refine blk_alloc ?_ _)); exact BK117.out) hg (Kd.R_ne HO_7.out BK117.out (by decide))); have n2_ := Aside0.mk (blk_grown (g := gb128) (o := .cells #[.int .i64 ((rd_T122 l0_1 x32_1).f0), .int .i64 ((rd_T122 l0_1 x32_1).f1), .int .i64 ((rd_T122 l0_1 x32_1).f2)] 122 (0, 0)) (by (with_reducible repeat (first | refine blk_drewN ?_ _ | refine blk_drew ?_ | refine blk_alloc ?_ _)); exact BK128.out) hg (Kd.R_ne HO_7.out BK128.out (by decide))); have n3_ := Aside0.mk ((by rw [hw]; exact below_set (HB.out) GB32.out : Below w.heap.size w w37)); clear HO_7; clear BK117; clear BK128; clear HB; have HO_7 := n0_; have BK117 := n1_; have BK128 := n2_; have HB := n3_; clear n0_ n1_ n2_ n3_; clear hg hw hp_))
                                    repeat (go_quiet (first | (go_at_call 99; (with_reducible refine (weak_next.calls x9_2 t129 _ A19.out).mono ?_); rintro e w' ⟨rfl, ⟨nd, rfl⟩⟩; (try first | exact ⟨rfl, _, World.drewN_drewN _ _ _⟩ | exact ⟨rfl, _, Eq.trans (World.drewN_drewN _ _ _) (congrArg (World.drewN _) (Nat.add_assoc _ _ _))⟩); obtain ⟨Ao35, co35, eo35⟩ := Kd.R_slice HO_7.out; subst eo35; have p130 : 0 ≤ (x12_2 : Int) := of_decide_eq_true (by first | (with_reducible assumption) | assumption); have q130 : x12_2 < (x7_2.length : Int) := of_decide_eq_true (by first | (with_reducible assumption) | assumption); obtain ⟨ad130, e130, hx130_0⟩ := Kd.at_int (Kd.R_reads' HO_7.out).2.2 x12_2 p130 q130; cases e130; replace p130 := eq_true p130; replace q130 := eq_true q130; have p131 : 0 ≤ ((ji24) : Int) := of_decide_eq_true (by first | (with_reducible assumption) | assumption); have q131 : (ji24) < (x7_2.length : Int) := of_decide_eq_true (by first | (with_reducible assumption) | assumption); obtain ⟨ad131, e131, hx131_0⟩ := Kd.at_int (Kd.R_reads' HO_7.out).2.2 (ji24) p131 q131; obtain rfl : ad130 = ad131 := (by injection e131); replace p131 := eq_true p131; replace q131 := eq_true q131; have p132 : 0 ≤ ((ji28) : Int) := of_decide_eq_true (by first | (with_reducible assumption) | assumption); have q132 : (ji28) < (x7_2.length : Int) := of_decide_eq_true (by first | (with_reducible assumption) | assumption); obtain ⟨ad132, e132, hx132_0⟩ := Kd.at_int (Kd.R_reads' HO_7.out).2.2 (ji28) p132 q132; obtain rfl : ad130 = ad132 := (by injection e132); replace p132 := eq_true p132; replace q132 := eq_true q132; have p133 : 0 ≤ (x12_2 : Int) := of_decide_eq_true (by first | (with_reducible assumption) | assumption); have q133 : x12_2 < (x7_2.length : Int) := of_decide_eq_true (by first | (with_reducible assumption) | assumption); obtain ⟨ad133, e133, hx133_0⟩ := Kd.at_int (Kd.R_reads' HO_7.out).2.2 x12_2 p133 q133; obtain rfl : ad130 = ad133 := (by injection e133); replace p133 := eq_true p133; replace q133 := eq_true q133; have p32 : 0 ≤ (x12_2 : Int) := of_decide_eq_true (by first | (with_reducible assumption) | assumption); have q32 : (x12_2 : Int) < ((x7_2.length : Int) : Int) := of_decide_eq_true (by first | (with_reducible assumption) | assumption); obtain ⟨go32, co32, eo32, gb32, gl32, cl32, HG32⟩ := Kd.R_form HO_7.out (by omega); (first | cases eo32 | (injection eo32 with ea_ en_ ec_; (first | subst ea_ | (injection ea_ with ea_; subst ea_)); subst ec_; clear en_)); have GB32 := Aside0.mk gb32; have GG32 := Aside0.mk HG32; clear gb32 gl32 HG32; (first | simp only [add_plain] at hx130_0 | skip); (first | simp only [add_plain] at hx131_0 | skip); (first | simp only [add_plain] at hx132_0 | skip); (first | simp only [add_plain] at hx133_0 | skip); obtain ⟨hx32_0, hf32_0⟩ := Kd.R_celln 0 HO_7.out (x12_2 : Int) p32 q32; replace p32 := eq_true p32; replace q32 := eq_true q32; obtain ⟨hy36_, hz36_⟩ := Kd.R_celln 0 HO_7.out (x12_2 : Int) (of_decide_eq_true (by first | (with_reducible assumption) | assumption)) (of_decide_eq_true (by first | (with_reducible assumption) | assumption)); have HP36 := Kd.R_putg HO_7.out (x12_2 : Int) ji31) | ((with_reducible refine gate_store (t := 3) (p := 94) rfl ?_); (try (rw [drewN_self wr]; generalize hq_ : World.drewN wr _ = wr; have n0_ := Aside0.mk (Kd.R_at hq_ HO_7.out); have n1_ := Aside0.mk (blk_at hq_ BK117.out); have n2_ := Aside0.mk (blk_at hq_ BK128.out); have n3_ := Aside0.mk (below_at hq_ HB.out); clear hq_ HO_7 BK117 BK128 HB; have HO_7 := n0_; have BK117 := n1_; have BK128 := n2_; have HB := n3_; clear n0_ n1_ n2_ n3_; (try (obtain ⟨hy36_, hz36_⟩ := Kd.R_celln 0 HO_7.out (x12_2 : Int) (of_decide_eq_true (by first | (with_reducible assumption) | assumption)) (of_decide_eq_true (by first | (with_reducible assumption) | assumption)))); (try (have HP36 := Kd.R_putg HO_7.out (x12_2 : Int) ji31)))); refine store_event (t := 3) (p := 94) (v := ?vo_w37) (w1 := (wr.setCell ⟨go32, (x12_2 : Int).toNat, none⟩ (.int .i64 ji31))) ?hg ?ho ?hn ?hr ?_; (case ho => rfl); (case hg => rfl); (case hn => rfl); (case hr => first | (go_simp; done) | (go_simp; rfl)); intro w37 hw; have hg : wr.grownBy w37 (some go32) := (by rw [hw]; exact HP36.2); have hp_ : Kd.R (Kd.int .i64) 3 w37 w.heap.size (fun _ => True) (.slice (some ⟨go32, 0, none⟩) x7_2.length co35) y134 := (by rw [hw, Ny134.out]; exact HP36.1); clear HP36; have n0_ := Aside0.mk (hp_); have n1_ := Aside0.mk (blk_grown (g := gb117) (o := .cells #[.slice A0_0 l0_0.length c0_0, .slice (some ad127) l0_1.length c0_1] 73 (0, 0)) (by (with_reducible repeat (first | refine blk_drewN ?_ _ | refine blk_drew ?_ | refine blk_alloc ?_ _)); exact BK117.out) hg (Kd.R_ne HO_7.out BK117.out (by decide))); have n2_ := Aside0.mk (blk_grown (g := gb128) (o := .cells #[.int .i64 ((rd_T122 l0_1 x32_1).f0), .int .i64 ((rd_T122 l0_1 x32_1).f1), .int .i64 ((rd_T122 l0_1 x32_1).f2)] 122 (0, 0)) (by (with_reducible repeat (first | refine blk_drewN ?_ _ | refine blk_drew ?_ | refine blk_alloc ?_ _)); exact BK128.out) hg (Kd.R_ne HO_7.out BK128.out (by decide))); have n3_ := Aside0.mk ((by rw [hw]; exact below_set (HB.out) GB32.out : Below w.heap.size w w37)); clear HO_7; clear BK117; clear BK128; clear HB; have HO_7 := n0_; have BK117 := n1_; have BK128 := n2_; have HB := n3_; clear n0_ n1_ n2_ n3_; clear hg hw hp_)); try go_wp2_with (first | (go_at_call 99; (with_reducible refine (weak_next.calls x9_2 t129 _ A19.out).mono ?_); rintro e w' ⟨rfl, ⟨nd, rfl⟩⟩; (try first | exact ⟨rfl, _, World.drewN_drewN _ _ _⟩ | exact ⟨rfl, _, Eq.trans (World.drewN_drewN _ _ _) (congrArg (World.drewN _) (Nat.add_assoc _ _ _))⟩); obtain ⟨Ao35, co35, eo35⟩ := Kd.R_slice HO_7.out; subst eo35; have p130 : 0 ≤ (x12_2 : Int) := of_decide_eq_true (by first | (with_reducible assumption) | assumption); have q130 : x12_2 < (x7_2.length : Int) := of_decide_eq_true (by first | (with_reducible assumption) | assumption); obtain ⟨ad130, e130, hx130_0⟩ := Kd.at_int (Kd.R_reads' HO_7.out).2.2 x12_2 p130 q130; cases e130; replace p130 := eq_true p130; replace q130 := eq_true q130; have p131 : 0 ≤ ((ji24) : Int) := of_decide_eq_true (by first | (with_reducible assumption) | assumption); have q131 : (ji24) < (x7_2.length : Int) := of_decide_eq_true (by first | (with_reducible assumption) | assumption); obtain ⟨ad131, e131, hx131_0⟩ := Kd.at_int (Kd.R_reads' HO_7.out).2.2 (ji24) p131 q131; obtain rfl : ad130 = ad131 := (by injection e131); replace p131 := eq_true p131; replace q131 := eq_true q131; have p132 : 0 ≤ ((ji28) : Int) := of_decide_eq_true (by first | (with_reducible assumption) | assumption); have q132 : (ji28) < (x7_2.length : Int) := of_decide_eq_true (by first | (with_reducible assumption) | assumption); obtain ⟨ad132, e132, hx132_0⟩ := Kd.at_int (Kd.R_reads' HO_7.out).2.2 (ji28) p132 q132; obtain rfl : ad130 = ad132 := (by injection e132); replace p132 := eq_true p132; replace q132 := eq_true q132; have p133 : 0 ≤ (x12_2 : Int) := of_decide_eq_true (by first | (with_reducible assumption) | assumption); have q133 : x12_2 < (x7_2.length : Int) := of_decide_eq_true (by first | (with_reducible assumption) | assumption); obtain ⟨ad133, e133, hx133_0⟩ := Kd.at_int (Kd.R_reads' HO_7.out).2.2 x12_2 p133 q133; obtain rfl : ad130 = ad133 := (by injection e133); replace p133 := eq_true p133; replace q133 := eq_true q133; have p32 : 0 ≤ (x12_2 : Int) := of_decide_eq_true (by first | (with_reducible assumption) | assumption); have q32 : (x12_2 : Int) < ((x7_2.length : Int) : Int) := of_decide_eq_true (by first | (with_reducible assumption) | assumption); obtain ⟨go32, co32, eo32, gb32, gl32, cl32, HG32⟩ := Kd.R_form HO_7.out (by omega); (first | cases eo32 | (injection eo32 with ea_ en_ ec_; (first | subst ea_ | (injection ea_ with ea_; subst ea_)); subst ec_; clear en_)); have GB32 := Aside0.mk gb32; have GG32 := Aside0.mk HG32; clear gb32 gl32 HG32; (first | simp only [add_plain] at hx130_0 | skip); (first | simp only [add_plain] at hx131_0 | skip); (first | simp only [add_plain] at hx132_0 | skip); (first | simp only [add_plain] at hx133_0 | skip); obtain ⟨hx32_0, hf32_0⟩ := Kd.R_celln 0 HO_7.out (x12_2 : Int) p32 q32; replace p32 := eq_true p32; replace q32 := eq_true q32; obtain ⟨hy36_, hz36_⟩ := Kd.R_celln 0 HO_7.out (x12_2 : Int) (of_decide_eq_true (by first | (with_reducible assumption) | assumption)) (of_decide_eq_true (by first | (with_reducible assumption) | assumption)); have HP36 := Kd.R_putg HO_7.out (x12_2 : Int) ji31) | ((with_reducible refine gate_store (t := 3) (p := 94) rfl ?_); (try (rw [drewN_self wr]; generalize hq_ : World.drewN wr _ = wr; have n0_ := Aside0.mk (Kd.R_at hq_ HO_7.out); have n1_ := Aside0.mk (blk_at hq_ BK117.out); have n2_ := Aside0.mk (blk_at hq_ BK128.out); have n3_ := Aside0.mk (below_at hq_ HB.out); clear hq_ HO_7 BK117 BK128 HB; have HO_7 := n0_; have BK117 := n1_; have BK128 := n2_; have HB := n3_; clear n0_ n1_ n2_ n3_; (try (obtain ⟨hy36_, hz36_⟩ := Kd.R_celln 0 HO_7.out (x12_2 : Int) (of_decide_eq_true (by first | (with_reducible assumption) | assumption)) (of_decide_eq_true (by first | (with_reducible assumption) | assumption)))); (try (have HP36 := Kd.R_putg HO_7.out (x12_2 : Int) ji31)))); refine store_event (t := 3) (p := 94) (v := ?vo_w37) (w1 := (wr.setCell ⟨go32, (x12_2 : Int).toNat, none⟩ (.int .i64 ji31))) ?hg ?ho ?hn ?hr ?_; (case ho => rfl); (case hg => rfl); (case hn => rfl); (case hr => first | (go_simp; done) | (go_simp; rfl)); intro w37 hw; have hg : wr.grownBy w37 (some go32) := (by rw [hw]; exact HP36.2); have hp_ : Kd.R (Kd.int .i64) 3 w37 w.heap.size (fun _ => True) (.slice (some ⟨go32, 0, none⟩) x7_2.length co35) y134 := (by rw [hw, Ny134.out]; exact HP36.1); clear HP36; have n0_ := Aside0.mk (hp_); have n1_ := Aside0.mk (blk_grown (g := gb117) (o := .cells #[.slice A0_0 l0_0.length c0_0, .slice (some ad127) l0_1.length c0_1] 73 (0, 0)) (by (with_reducible repeat (first | refine blk_drewN ?_ _ | refine blk_drew ?_ | refine blk_alloc ?_ _)); exact BK117.out) hg (Kd.R_ne HO_7.out BK117.out (by decide))); have n2_ := Aside0.mk (blk_grown (g := gb128) (o := .cells #[.int .i64 ((rd_T122 l0_1 x32_1).f0), .int .i64 ((rd_T122 l0_1 x32_1).f1), .int .i64 ((rd_T122 l0_1 x32_1).f2)] 122 (0, 0)) (by (with_reducible repeat (first | refine blk_drewN ?_ _ | refine blk_drew ?_ | refine blk_alloc ?_ _)); exact BK128.out) hg (Kd.R_ne HO_7.out BK128.out (by decide))); have n3_ := Aside0.mk ((by rw [hw]; exact below_set (HB.out) GB32.out : Below w.heap.size w w37)); clear HO_7; clear BK117; clear BK128; clear HB; have HO_7 := n0_; have BK117 := n1_; have BK128 := n2_; have HB := n3_; clear n0_ n1_ n2_ n3_; clear hg hw hp_)))
                                    go_roundg k2
                                    case measure => have := HK1.out; have := HK2.out; omega
                                    case rel => exact ⟨(y134), (t129), (ji28), (by first | rfl | (simp; done) | (simp [*]; done)), (by first | rfl | (simp; done) | (simp only [← hji28] <;> (first | rfl | simp)) | (simp [*]; done)), H', ⟨by have := HK1.out; have := HK2.out; omega⟩, ⟨by (with_reducible repeat (first | apply Kd.R_alloc | apply Kd.R_drewN | apply Kd.R_drew)); exact HO_7.out⟩, ⟨by (with_reducible repeat (first | refine blk_drewN ?_ _ | refine blk_drew ?_ | refine blk_alloc ?_ _)); exact BK117.out⟩, ⟨by (with_reducible repeat (first | refine blk_drewN ?_ _ | refine blk_drew ?_ | refine blk_alloc ?_ _)); exact BK128.out⟩, ⟨by repeat (first | (with_reducible first | exact HB.out | apply below_alloc | apply pw_below_drewN | apply below_drew1 | refine below_set ?_ GE117.out | refine below_set ?_ GE128.out) | exact HB.out)⟩⟩
                                  · rw [if_neg c29] at H
                                    exact absurd H (by simp)
                                · rw [if_neg c27] at H
                                  have c27b0 : decide ((wrap64 (x12_2 + 1)) < (x7_2.length : Int)) = false := decide_eq_false c27
                                  clear c27
                                  obtain ⟨ji38, hji38⟩ : ∃ j_ : Int, (mn (wrap64 ((rd x7_2 x12_2) + 100000)) (wrap64 ((rd x7_2 x12_2) + (wrap64 ((wrap64 (Int.tmod (t129 / 8589934592) (IntKind.u64.wrap (wrap64 ((wrap64 (2 * ((rd_T122 l0_1 x32_1).f2))) + 1))))) - ((rd_T122 l0_1 x32_1).f2)))))) = j_ := ⟨_, rfl⟩
                                  replace H : (weak_Read.l1 k2 (x7_2.set (x12_2 : Int).toNat (mx (wrap64 ((rd x7_2 (ji24)) + 1)) (ji38))) t129 (wrap64 (x12_2 + 1)) l0_1 (l0_1.length : Int) x32_1 ((rd_T122 l0_1 x32_1).f0) ((rd_T122 l0_1 x32_1).f1) ((rd_T122 l0_1 x32_1).f2)) = some (r1, r2) := by first | (rw [hji38] at H; exact H) | (simp only [hji38] at H ⊢; exact H)
                                  (try rw [hji38] at A19)
                                  have hji38_ : (if (wrap64 ((rd x7_2 x12_2) + (wrap64 ((wrap64 (Int.tmod (t129 / 8589934592) (IntKind.u64.wrap (wrap64 ((wrap64 (2 * ((rd_T122 l0_1 x32_1).f2))) + 1))))) - ((rd_T122 l0_1 x32_1).f2))))) < (wrap64 ((rd x7_2 x12_2) + 100000)) then (wrap64 ((rd x7_2 x12_2) + (wrap64 ((wrap64 (Int.tmod (t129 / 8589934592) (IntKind.u64.wrap (wrap64 ((wrap64 (2 * ((rd_T122 l0_1 x32_1).f2))) + 1))))) - ((rd_T122 l0_1 x32_1).f2))))) else (wrap64 ((rd x7_2 x12_2) + 100000))) = ji38 := hji38
                                  obtain ⟨ji39, hji39⟩ : ∃ j_ : Int, (mx (wrap64 ((rd x7_2 (ji24)) + 1)) (ji38)) = j_ := ⟨_, rfl⟩
                                  replace H : (weak_Read.l1 k2 (x7_2.set (x12_2 : Int).toNat (ji39)) t129 (wrap64 (x12_2 + 1)) l0_1 (l0_1.length : Int) x32_1 ((rd_T122 l0_1 x32_1).f0) ((rd_T122 l0_1 x32_1).f1) ((rd_T122 l0_1 x32_1).f2)) = some (r1, r2) := by first | (rw [hji39] at H; exact H) | (simp only [hji39] at H ⊢; exact H)
                                  (try rw [hji39] at A19)
                                  have hji39_ : (if (wrap64 ((rd x7_2 (ji24)) + 1)) < (ji38) then (ji38) else (wrap64 ((rd x7_2 (ji24)) + 1))) = ji39 := hji39
                                  obtain ⟨y136, hy136⟩ : ∃ y_ : List Int, y_ = (x7_2.set (x12_2 : Int).toNat (ji39)) := ⟨_, rfl⟩
                                  replace H : (weak_Read.l1 k2 y136 t129 (wrap64 (x12_2 + 1)) l0_1 (l0_1.length : Int) x32_1 ((rd_T122 l0_1 x32_1).f0) ((rd_T122 l0_1 x32_1).f1) ((rd_T122 l0_1 x32_1).f2)) = some (r1, r2) := by first | (rw [hy136]; with_reducible exact H) | (have H2_ := (Option.bind_some _ _).symm.trans H; rw [hy136]; with_reducible exact H2_) | (have H2_ := (Option.bind_some _ _).symm.trans H; with_reducible exact H2_) | with_reducible exact H | (rw [hy136]; exact H) | exact H
                                  have Ny136 := Aside0.mk hy136
                                  clear hy136
                                  have H' := Aside0.mk H
                                  clear H
                                  have hnb41 := NB128_117.out
                                  have hnc41 := NB117_128.out
                                  have hcz42_0 : wr.cell? ⟨gb128, 0, none⟩ = some (.int .i64 ((rd_T122 l0_1 x32_1).f0)) := (blk_cell BK128.out 0).trans rfl
                                  have hcz42_1 : wr.cell? ⟨gb128, 1, none⟩ = some (.int .i64 ((rd_T122 l0_1 x32_1).f1)) := (blk_cell BK128.out 1).trans rfl
                                  have hcz42_2 : wr.cell? ⟨gb128, 2, none⟩ = some (.int .i64 ((rd_T122 l0_1 x32_1).f2)) := (blk_cell BK128.out 2).trans rfl
                                  have hfz42_0 := blk_frozen BK128.out 0
                                  have hfz42_1 := blk_frozen BK128.out 1
                                  have hfz42_2 := blk_frozen BK128.out 2
                                  go_wp2_with (first | (go_at_call 99; (with_reducible refine (weak_next.calls x9_2 t129 _ A19.out).mono ?_); rintro e w' ⟨rfl, ⟨nd, rfl⟩⟩; (try first | exact ⟨rfl, _, World.drewN_drewN _ _ _⟩ | exact ⟨rfl, _, Eq.trans (World.drewN_drewN _ _ _) (congrArg (World.drewN _) (Nat.add_assoc _ _ _))⟩); obtain ⟨Ao43, co43, eo43⟩ := Kd.R_slice HO_7.out; subst eo43; have p130 : 0 ≤ (x12_2 : Int) := of_decide_eq_true (by first | (with_reducible assumption) | assumption); have q130 : x12_2 < (x7_2.length : Int) := of_decide_eq_true (by first | (with_reducible assumption) | assumption); obtain ⟨ad130, e130, hx130_0⟩ := Kd.at_int (Kd.R_reads' HO_7.out).2.2 x12_2 p130 q130; cases e130; replace p130 := eq_true p130; replace q130 := eq_true q130; have p131 : 0 ≤ ((ji24) : Int) := of_decide_eq_true (by first | (with_reducible assumption) | assumption); have q131 : (ji24) < (x7_2.length : Int) := of_decide_eq_true (by first | (with_reducible assumption) | assumption); obtain ⟨ad131, e131, hx131_0⟩ := Kd.at_int (Kd.R_reads' HO_7.out).2.2 (ji24) p131 q131; obtain rfl : ad130 = ad131 := (by injection e131); replace p131 := eq_true p131; replace q131 := eq_true q131; have p135 : 0 ≤ (x12_2 : Int) := of_decide_eq_true (by first | (with_reducible assumption) | assumption); have q135 : x12_2 < (x7_2.length : Int) := of_decide_eq_true (by first | (with_reducible assumption) | assumption); obtain ⟨ad135, e135, hx135_0⟩ := Kd.at_int (Kd.R_reads' HO_7.out).2.2 x12_2 p135 q135; obtain rfl : ad130 = ad135 := (by injection e135); replace p135 := eq_true p135; replace q135 := eq_true q135; have p40 : 0 ≤ (x12_2 : Int) := of_decide_eq_true (by first | (with_reducible assumption) | assumption); have q40 : (x12_2 : Int) < ((x7_2.length : Int) : Int) := of_decide_eq_true (by first | (with_reducible assumption) | assumption); obtain ⟨go40, co40, eo40, gb40, gl40, cl40, HG40⟩ := Kd.R_form HO_7.out (by omega); (first | cases eo40 | (injection eo40 with ea_ en_ ec_; (first | subst ea_ | (injection ea_ with ea_; subst ea_)); subst ec_; clear en_)); have GB40 := Aside0.mk gb40; have GG40 := Aside0.mk HG40; clear gb40 gl40 HG40; (first | simp only [add_plain] at hx130_0 | skip); (first | simp only [add_plain] at hx131_0 | skip); (first | simp only [add_plain] at hx135_0 | skip); obtain ⟨hx40_0, hf40_0⟩ := Kd.R_celln 0 HO_7.out (x12_2 : Int) p40 q40; replace p40 := eq_true p40; replace q40 := eq_true q40; obtain ⟨hy44_, hz44_⟩ := Kd.R_celln 0 HO_7.out (x12_2 : Int) (of_decide_eq_true (by first | (with_reducible assumption) | assumption)) (of_decide_eq_true (by first | (with_reducible assumption) | assumption)); have HP44 := Kd.R_putg HO_7.out (x12_2 : Int) ji39) | ((with_reducible refine gate_store (t := 3) (p := 94) rfl ?_); (try (rw [drewN_self wr]; generalize hq_ : World.drewN wr _ = wr; have n0_ := Aside0.mk (Kd.R_at hq_ HO_7.out); have n1_ := Aside0.mk (blk_at hq_ BK117.out); have n2_ := Aside0.mk (blk_at hq_ BK128.out); have n3_ := Aside0.mk (below_at hq_ HB.out); clear hq_ HO_7 BK117 BK128 HB; have HO_7 := n0_; have BK117 := n1_; have BK128 := n2_; have HB := n3_; clear n0_ n1_ n2_ n3_; (try (obtain ⟨hy44_, hz44_⟩ := Kd.R_celln 0 HO_7.out (x12_2 : Int) (of_decide_eq_true (by first | (with_reducible assumption) | assumption)) (of_decide_eq_true (by first | (with_reducible assumption) | assumption)))); (try (have HP44 := Kd.R_putg HO_7.out (x12_2 : Int) ji39)))); refine store_event (t := 3) (p := 94) (v := ?vo_w45) (w1 := (wr.setCell ⟨go40, (x12_2 : Int).toNat, none⟩ (.int .i64 ji39))) ?hg ?ho ?hn ?hr ?_; (case ho => rfl); (case hg => rfl); (case hn => rfl); (case hr => first | (go_simp; done) | (go_simp; rfl)); intro w45 hw; have hg : wr.grownBy w45 (some go40) := (by rw [hw]; exact HP44.2); have hp_ : Kd.R (Kd.int .i64) 3 w45 w.heap.size (fun _ => True) (.slice (some ⟨go40, 0, none⟩) x7_2.length co43) y136 := (by rw [hw, Ny136.out]; exact HP44.1); clear HP44; have n0_ := Aside0.mk (hp_); have n1_ := Aside0.mk (blk_grown (g := gb117) (o := .cells #[.slice A0_0 l0_0.length c0_0, .slice (some ad127) l0_1.length c0_1] 73 (0, 0)) (by (with_reducible repeat (first | refine blk_drewN ?_ _ | refine blk_drew ?_ | refine blk_alloc ?_ _)); exact BK117.out) hg (Kd.R_ne HO_7.out BK117.out (by decide))); have n2_ := Aside0.mk (blk_grown (g := gb128) (o := .cells #[.int .i64 ((rd_T122 l0_1 x32_1).f0), .int .i64 ((rd_T122 l0_1 x32_1).f1), .int .i64 ((rd_T122 l0_1 x32_1).f2)] 122 (0, 0)) (by (with_reducible repeat (first | refine blk_drewN ?_ _ | refine blk_drew ?_ | refine blk_alloc ?_ _)); exact BK128.out) hg (Kd.R_ne HO_7.out BK128.out (by decide))); have n3_ := Aside0.mk ((by rw [hw]; exact below_set (HB.out) GB40.out : Below w.heap.size w w45)); clear HO_7; clear BK117; clear BK128; clear HB; have HO_7 := n0_; have BK117 := n1_; have BK128 := n2_; have HB := n3_; clear n0_ n1_ n2_ n3_; clear hg hw hp_))
                                  repeat (go_quiet (first | (go_at_call 99; (with_reducible refine (weak_next.calls x9_2 t129 _ A19.out).mono ?_); rintro e w' ⟨rfl, ⟨nd, rfl⟩⟩; (try first | exact ⟨rfl, _, World.drewN_drewN _ _ _⟩ | exact ⟨rfl, _, Eq.trans (World.drewN_drewN _ _ _) (congrArg (World.drewN _) (Nat.add_assoc _ _ _))⟩); obtain ⟨Ao43, co43, eo43⟩ := Kd.R_slice HO_7.out; subst eo43; have p130 : 0 ≤ (x12_2 : Int) := of_decide_eq_true (by first | (with_reducible assumption) | assumption); have q130 : x12_2 < (x7_2.length : Int) := of_decide_eq_true (by first | (with_reducible assumption) | assumption); obtain ⟨ad130, e130, hx130_0⟩ := Kd.at_int (Kd.R_reads' HO_7.out).2.2 x12_2 p130 q130; cases e130; replace p130 := eq_true p130; replace q130 := eq_true q130; have p131 : 0 ≤ ((ji24) : Int) := of_decide_eq_true (by first | (with_reducible assumption) | assumption); have q131 : (ji24) < (x7_2.length : Int) := of_decide_eq_true (by first | (with_reducible assumption) | assumption); obtain ⟨ad131, e131, hx131_0⟩ := Kd.at_int (Kd.R_reads' HO_7.out).2.2 (ji24) p131 q131; obtain rfl : ad130 = ad131 := (by injection e131); replace p131 := eq_true p131; replace q131 := eq_true q131; have p135 : 0 ≤ (x12_2 : Int) := of_decide_eq_true (by first | (with_reducible assumption) | assumption); have q135 : x12_2 < (x7_2.length : Int) := of_decide_eq_true (by first | (with_reducible assumption) | assumption); obtain ⟨ad135, e135, hx135_0⟩ := Kd.at_int (Kd.R_reads' HO_7.out).2.2 x12_2 p135 q135; obtain rfl : ad130 = ad135 := (by injection e135); replace p135 := eq_true p135; replace q135 := eq_true q135; have p40 : 0 ≤ (x12_2 : Int) := of_decide_eq_true (by first | (with_reducible assumption) | assumption); have q40 : (x12_2 : Int) < ((x7_2.length : Int) : Int) := of_decide_eq_true (by first | (with_reducible assumption) | assumption); obtain ⟨go40, co40, eo40, gb40, gl40, cl40, HG40⟩ := Kd.R_form HO_7.out (by omega); (first | cases eo40 | (injection eo40 with ea_ en_ ec_; (first | subst ea_ | (injection ea_ with ea_; subst ea_)); subst ec_; clear en_)); have GB40 := Aside0.mk gb40; have GG40 := Aside0.mk HG40; clear gb40 gl40 HG40; (first | simp only [add_plain] at hx130_0 | skip); (first | simp only [add_plain] at hx131_0 | skip); (first | simp only [add_plain] at hx135_0 | skip); obtain ⟨hx40_0, hf40_0⟩ := Kd.R_celln 0 HO_7.out (x12_2 : Int) p40 q40; replace p40 := eq_true p40; replace q40 := eq_true q40; obtain ⟨hy44_, hz44_⟩ := Kd.R_celln 0 HO_7.out (x12_2 : Int) (of_decide_eq_true (by first | (with_reducible assumption) | assumption)) (of_decide_eq_true (by first | (with_reducible assumption) | assumption)); have HP44 := Kd.R_putg HO_7.out (x12_2 : Int) ji39) | ((with_reducible refine gate_store (t := 3) (p := 94) rfl ?_); (try (rw [drewN_self wr]; generalize hq_ : World.drewN wr _ = wr; have n0_ := Aside0.mk (Kd.R_at hq_ HO_7.out); have n1_ := Aside0.mk (blk_at hq_ BK117.out); have n2_ := Aside0.mk (blk_at hq_ BK128.out); have n3_ := Aside0.mk (below_at hq_ HB.out); clear hq_ HO_7 BK117 BK128 HB; have HO_7 := n0_; have BK117 := n1_; have BK128 := n2_; have HB := n3_; clear n0_ n1_ n2_ n3_; (try (obtain ⟨hy44_, hz44_⟩ := Kd.R_celln 0 HO_7.out (x12_2 : Int) (of_decide_eq_true (by first | (with_reducible assumption) | assumption)) (of_decide_eq_true (by first | (with_reducible assumption) | assumption)))); (try (have HP44 := Kd.R_putg HO_7.out (x12_2 : Int) ji39)))); refine store_event (t := 3) (p := 94) (v := ?vo_w45) (w1 := (wr.setCell ⟨go40, (x12_2 : Int).toNat, none⟩ (.int .i64 ji39))) ?hg ?ho ?hn ?hr ?_; (case ho => rfl); (case hg => rfl); (case hn => rfl); (case hr => first | (go_simp; done) | (go_simp; rfl)); intro w45 hw; have hg : wr.grownBy w45 (some go40) := (by rw [hw]; exact HP44.2); have hp_ : Kd.R (Kd.int .i64) 3 w45 w.heap.size (fun _ => True) (.slice (some ⟨go40, 0, none⟩) x7_2.length co43) y136 := (by rw [hw, Ny136.out]; exact HP44.1); clear HP44; have n0_ := Aside0.mk (hp_); have n1_ := Aside0.mk (blk_grown (g := gb117) (o := .cells #[.slice A0_0 l0_0.length c0_0, .slice (some ad127) l0_1.length c0_1] 73 (0, 0)) (by (with_reducible repeat (first | refine blk_drewN ?_ _ | refine blk_drew ?_ | refine blk_alloc ?_ _)); exact BK117.out) hg (Kd.R_ne HO_7.out BK117.out (by decide))); have n2_ := Aside0.mk (blk_grown (g := gb128) (o := .cells #[.int .i64 ((rd_T122 l0_1 x32_1).f0), .int .i64 ((rd_T122 l0_1 x32_1).f1), .int .i64 ((rd_T122 l0_1 x32_1).f2)] 122 (0, 0)) (by (with_reducible repeat (first | refine blk_drewN ?_ _ | refine blk_drew ?_ | refine blk_alloc ?_ _)); exact BK128.out) hg (Kd.R_ne HO_7.out BK128.out (by decide))); have n3_ := Aside0.mk ((by rw [hw]; exact below_set (HB.out) GB40.out : Below w.heap.size w w45)); clear HO_7; clear BK117; clear BK128; clear HB; have HO_7 := n0_; have BK117 := n1_; have BK128 := n2_; have HB := n3_; clear n0_ n1_ n2_ n3_; clear hg hw hp_)); try go_wp2_with (first | (go_at_call 99; (with_reducible refine (weak_next.calls x9_2 t129 _ A19.out).mono ?_); rintro e w' ⟨rfl, ⟨nd, rfl⟩⟩; (try first | exact ⟨rfl, _, World.drewN_drewN _ _ _⟩ | exact ⟨rfl, _, Eq.trans (World.drewN_drewN _ _ _) (congrArg (World.drewN _) (Nat.add_assoc _ _ _))⟩); obtain ⟨Ao43, co43, eo43⟩ := Kd.R_slice HO_7.out; subst eo43; have p130 : 0 ≤ (x12_2 : Int) := of_decide_eq_true (by first | (with_reducible assumption) | assumption); have q130 : x12_2 < (x7_2.length : Int) := of_decide_eq_true (by first | (with_reducible assumption) | assumption); obtain ⟨ad130, e130, hx130_0⟩ := Kd.at_int (Kd.R_reads' HO_7.out).2.2 x12_2 p130 q130; cases e130; replace p130 := eq_true p130; replace q130 := eq_true q130; have p131 : 0 ≤ ((ji24) : Int) := of_decide_eq_true (by first | (with_reducible assumption) | assumption); have q131 : (ji24) < (x7_2.length : Int) := of_decide_eq_true (by first | (with_reducible assumption) | assumption); obtain ⟨ad131, e131, hx131_0⟩ := Kd.at_int (Kd.R_reads' HO_7.out).2.2 (ji24) p131 q131; obtain rfl : ad130 = ad131 := (by injection e131); replace p131 := eq_true p131; replace q131 := eq_true q131; have p135 : 0 ≤ (x12_2 : Int) := of_decide_eq_true (by first | (with_reducible assumption) | assumption); have q135 : x12_2 < (x7_2.length : Int) := of_decide_eq_true (by first | (with_reducible assumption) | assumption); obtain ⟨ad135, e135, hx135_0⟩ := Kd.at_int (Kd.R_reads' HO_7.out).2.2 x12_2 p135 q135; obtain rfl : ad130 = ad135 := (by injection e135); replace p135 := eq_true p135; replace q135 := eq_true q135; have p40 : 0 ≤ (x12_2 : Int) := of_decide_eq_true (by first | (with_reducible assumption) | assumption); have q40 : (x12_2 : Int) < ((x7_2.length : Int) : Int) := of_decide_eq_true (by first | (with_reducible assumption) | assumption); obtain ⟨go40, co40, eo40, gb40, gl40, cl40, HG40⟩ := Kd.R_form HO_7.out (by omega); (first | cases eo40 | (injection eo40 with ea_ en_ ec_; (first | subst ea_ | (injection ea_ with ea_; subst ea_)); subst ec_; clear en_)); have GB40 := Aside0.mk gb40; have GG40 := Aside0.mk HG40; clear gb40 gl40 HG40; (first | simp only [add_plain] at hx130_0 | skip); (first | simp only [add_plain] at hx131_0 | skip); (first | simp only [add_plain] at hx135_0 | skip); obtain ⟨hx40_0, hf40_0⟩ := Kd.R_celln 0 HO_7.out (x12_2 : Int) p40 q40; replace p40 := eq_true p40; replace q40 := eq_true q40; obtain ⟨hy44_, hz44_⟩ := Kd.R_celln 0 HO_7.out (x12_2 : Int) (of_decide_eq_true (by first | (with_reducible assumption) | assumption)) (of_decide_eq_true (by first | (with_reducible assumption) | assumption)); have HP44 := Kd.R_putg HO_7.out (x12_2 : Int) ji39) | ((with_reducible refine gate_store (t := 3) (p := 94) rfl ?_); (try (rw [drewN_self wr]; generalize hq_ : World.drewN wr _ = wr; have n0_ := Aside0.mk (Kd.R_at hq_ HO_7.out); have n1_ := Aside0.mk (blk_at hq_ BK117.out); have n2_ := Aside0.mk (blk_at hq_ BK128.out); have n3_ := Aside0.mk (below_at hq_ HB.out); clear hq_ HO_7 BK117 BK128 HB; have HO_7 := n0_; have BK117 := n1_; have BK128 := n2_; have HB := n3_; clear n0_ n1_ n2_ n3_; (try (obtain ⟨hy44_, hz44_⟩ := Kd.R_celln 0 HO_7.out (x12_2 : Int) (of_decide_eq_true (by first | (with_reducible assumption) | assumption)) (of_decide_eq_true (by first | (with_reducible assumption) | assumption)))); (try (have HP44 := Kd.R_putg HO_7.out (x12_2 : Int) ji39)))); refine store_event (t := 3) (p := 94) (v := ?vo_w45) (w1 := (wr.setCell ⟨go40, (x12_2 : Int).toNat, none⟩ (.int .i64 ji39))) ?hg ?ho ?hn ?hr ?_; (case ho => rfl); (case hg => rfl); (case hn => rfl); (case hr => first | (go_simp; done) | (go_simp; rfl)); intro w45 hw; have hg : wr.grownBy w45 (some go40) := (by rw [hw]; exact HP44.2); have hp_ : Kd.R (Kd.int .i64) 3 w45 w.heap.size (fun _ => True) (.slice (some ⟨go40, 0, none⟩) x7_2.length co43) y136 := (by rw [hw, Ny136.out]; exact HP44.1); clear HP44; have n0_ := Aside0.mk (hp_); have n1_ := Aside0.mk (blk_grown (g := gb117) (o := .cells #[.slice A0_0 l0_0.length c0_0, .slice (some ad127) l0_1.length c0_1] 73 (0, 0)) (by (with_reducible repeat (first | refine blk_drewN ?_ _ | refine blk_drew ?_ | refine blk_alloc ?_ _)); exact BK117.out) hg (Kd.R_ne HO_7.out BK117.out (by decide))); have n2_ := Aside0.mk (blk_grown (g := gb128) (o := .cells #[.int .i64 ((rd_T122 l0_1 x32_1).f0), .int .i64 ((rd_T122 l0_1 x32_1).f1), .int .i64 ((rd_T122 l0_1 x32_1).f2)] 122 (0, 0)) (by (with_reducible repeat (first | refine blk_drewN ?_ _ | refine blk_drew ?_ | refine blk_alloc ?_ _)); exact BK128.out) hg (Kd.R_ne HO_7.out BK128.out (by decide))); have n3_ := Aside0.mk ((by rw [hw]; exact below_set (HB.out) GB40.out : Below w.heap.size w w45)); clear HO_7; clear BK117; clear BK128; clear HB; have HO_7 := n0_; have BK117 := n1_; have BK128 := n2_; have HB := n3_; clear n0_ n1_ n2_ n3_; clear hg hw hp_)))
                                  go_roundg k2
                                  case measure => have := HK1.out; have := HK2.out; omega
                                  case rel => exact ⟨(y136), (t129), (wrap64 (x12_2 + 1)), (by first | rfl | (simp; done) | (simp [*]; done)), (by first | rfl | (simp; done) | (simp [*]; done)), H', ⟨by have := HK1.out; have := HK2.out; omega⟩, ⟨by (with_reducible repeat (first | apply Kd.R_alloc | apply Kd.R_drewN | apply Kd.R_drew)); exact HO_7.out⟩, ⟨by (with_reducible repeat (first | refine blk_drewN ?_ _ | refine blk_drew ?_ | refine blk_alloc ?_ _)); exact BK117.out⟩, ⟨by (with_reducible repeat (first | refine blk_drewN ?_ _ | refine blk_drew ?_ | refine blk_alloc ?_ _)); exact BK128.out⟩, ⟨by repeat (first | (with_reducible first | exact HB.out | apply below_alloc | apply pw_below_drewN | apply below_drew1 | refine below_set ?_ GE117.out | refine below_set ?_ GE128.out) | exact HB.out)⟩⟩
                              · rw [if_neg c26] at H
                                exact absurd H (by simp)
                            · rw [if_neg c25] at H
                              exact absurd H (by simp)
                          · rw [if_neg c23] at H
                            have c23b0 : decide (0 < x12_2) = false := decide_eq_false c23
                            clear c23
                            by_cases c46 : (wrap64 (x12_2 + 1)) < (x7_2.length : Int)
                            · rw [if_pos c46] at H
                              have c46b0 : decide ((wrap64 (x12_2 + 1)) < (x7_2.length : Int)) = true := decide_eq_true c46
                              clear c46
                              obtain ⟨ji47, hji47⟩ : ∃ j_ : Int, (wrap64 (x12_2 + 1)) = j_ := ⟨_, rfl⟩
                              replace H : (if 0 ≤ (ji47) then (weak_Read.l1 k2 (x7_2.set (x12_2 : Int).toNat (mx 1 (mn (wrap64 ((rd x7_2 (ji47)) - 1)) (wrap64 ((rd x7_2 x12_2) + (wrap64 ((wrap64 (Int.tmod (t129 / 8589934592) (IntKind.u64.wrap (wrap64 ((wrap64 (2 * ((rd_T122 l0_1 x32_1).f2))) + 1))))) - ((rd_T122 l0_1 x32_1).f2)))))))) t129 ji47 l0_1 (l0_1.length : Int) x32_1 ((rd_T122 l0_1 x32_1).f0) ((rd_T122 l0_1 x32_1).f1) ((rd_T122 l0_1 x32_1).f2)) else (none)) = some (r1, r2) := by first | (rw [hji47] at H; exact H) | (simp only [hji47] at H ⊢; exact H)
                              (try rw [hji47] at c46b0)
                              (try rw [hji47] at A19)
                              have hji47w : (IntKind.i64.wrap (x12_2 + 1)) = ji47 := (i64_w _).trans hji47
                              by_cases c48 : 0 ≤ (ji47)
                              · rw [if_pos c48] at H
                                have c48b0 : decide (0 ≤ (ji47)) = true := decide_eq_true c48
                                clear c48
                                obtain ⟨ji49, hji49⟩ : ∃ j_ : Int, (mn (wrap64 ((rd x7_2 (ji47)) - 1)) (wrap64 ((rd x7_2 x12_2) + (wrap64 ((wrap64 (Int.tmod (t129 / 8589934592) (IntKind.u64.wrap (wrap64 ((wrap64 (2 * ((rd_T122 l0_1 x32_1).f2))) + 1))))) - ((rd_T122 l0_1 x32_1).f2)))))) = j_ := ⟨_, rfl⟩
                                replace H : (weak_Read.l1 k2 (x7_2.set (x12_2 : Int).toNat (mx 1 (ji49))) t129 ji47 l0_1 (l0_1.length : Int) x32_1 ((rd_T122 l0_1 x32_1).f0) ((rd_T122 l0_1 x32_1).f1) ((rd_T122 l0_1 x32_1).f2)) = some (r1, r2) := by first | (rw [hji49] at H; exact H) | (simp only [hji49] at H ⊢; exact H)
                                (try rw [hji49] at A19)
                                have hji49_ : (if (wrap64 ((rd x7_2 x12_2) + (wrap64 ((wrap64 (Int.tmod (t129 / 8589934592) (IntKind.u64.wrap (wrap64 ((wrap64 (2 * ((rd_T122 l0_1 x32_1).f2))) + 1))))) - ((rd_T122 l0_1 x32_1).f2))))) < (wrap64 ((rd x7_2 (ji47)) - 1)) then (wrap64 ((rd x7_2 x12_2) + (wrap64 ((wrap64 (Int.tmod (t129 / 8589934592) (IntKind.u64.wrap (wrap64 ((wrap64 (2 * ((rd_T122 l0_1 x32_1).f2))) + 1))))) - ((rd_T122 l0_1 x32_1).f2))))) else (wrap64 ((rd x7_2 (ji47)) - 1))) = ji49 := hji49
                                obtain ⟨ji50, hji50⟩ : ∃ j_ : Int, (mx 1 (ji49)) = j_ := ⟨_, rfl⟩
                                replace H : (weak_Read.l1 k2 (x7_2.set (x12_2 : Int).toNat (ji50)) t129 ji47 l0_1 (l0_1.length : Int) x32_1 ((rd_T122 l0_1 x32_1).f0) ((rd_T122 l0_1 x32_1).f1) ((rd_T122 l0_1 x32_1).f2)) = some (r1, r2) := by first | (rw [hji50] at H; exact H) | (simp only [hji50] at H ⊢; exact H)
                                (try rw [hji50] at A19)
                                have hji50_ : (if 1 < (ji49) then (ji49) else 1) = ji50 := hji50
                                obtain ⟨y139, hy139⟩ : ∃ y_ : List Int, y_ = (x7_2.set (x12_2 : Int).toNat (ji50)) := ⟨_, rfl⟩
                                replace H : (weak_Read.l1 k2 y139 t129 ji47 l0_1 (l0_1.length : Int) x32_1 ((rd_T122 l0_1 x32_1).f0) ((rd_T122 l0_1 x32_1).f1) ((rd_T122 l0_1 x32_1).f2)) = some (r1, r2) := by first | (rw [hy139]; with_reducible exact H) | (have H2_ := (Option.bind_some _ _).symm.trans H; rw [hy139]; with_reducible exact H2_) | (have H2_ := (Option.bind_some _ _).symm.trans H; with_reducible exact H2_) | with_reducible exact H | (rw [hy139]; exact H) | exact H
                                have Ny139 := Aside0.mk hy139
                                clear hy139
                                have H' := Aside0.mk H
                                clear H
                                have hnb52 := NB128_117.out
                                have hnc52 := NB117_128.out
                                have hcz53_0 : wr.cell? ⟨gb128, 0, none⟩ = some (.int .i64 ((rd_T122 l0_1 x32_1).f0)) := (blk_cell BK128.out 0).trans rfl
                                have hcz53_1 : wr.cell? ⟨gb128, 1, none⟩ = some (.int .i64 ((rd_T122 l0_1 x32_1).f1)) := (blk_cell BK128.out 1).trans rfl
                                have hcz53_2 : wr.cell? ⟨gb128, 2, none⟩ = some (.int .i64 ((rd_T122 l0_1 x32_1).f2)) := (blk_cell BK128.out 2).trans rfl
                                have hfz53_0 := blk_frozen BK128.out 0
                                have hfz53_1 := blk_frozen BK128.out 1
                                have hfz53_2 := blk_frozen BK128.out 2
                                go_wp2_with (first | (go_at_call 99; (with_reducible refine (weak_next.calls x9_2 t129 _ A19.out).mono ?_); rintro e w' ⟨rfl, ⟨nd, rfl⟩⟩; (try first | exact ⟨rfl, _, World.drewN_drewN _ _ _⟩ | exact ⟨rfl, _, Eq.trans (World.drewN_drewN _ _ _) (congrArg (World.drewN _) (Nat.add_assoc _ _ _))⟩); obtain ⟨Ao54, co54, eo54⟩ := Kd.R_slice HO_7.out; subst eo54; have p130 : 0 ≤ (x12_2 : Int) := of_decide_eq_true (by first | (with_reducible assumption) | assumption); have q130 : x12_2 < (x7_2.length : Int) := of_decide_eq_true (by first | (with_reducible assumption) | assumption); obtain ⟨ad130, e130, hx130_0⟩ := Kd.at_int (Kd.R_reads' HO_7.out).2.2 x12_2 p130 q130; cases e130; replace p130 := eq_true p130; replace q130 := eq_true q130; have p137 : 0 ≤ ((ji47) : Int) := of_decide_eq_true (by first | (with_reducible assumption) | assumption); have q137 : (ji47) < (x7_2.length : Int) := of_decide_eq_true (by first | (with_reducible assumption) | assumption); obtain ⟨ad137, e137, hx137_0⟩ := Kd.at_int (Kd.R_reads' HO_7.out).2.2 (ji47) p137 q137; obtain rfl : ad130 = ad137 := (by injection e137); replace p137 := eq_true p137; replace q137 := eq_true q137; have p138 : 0 ≤ (x12_2 : Int) := of_decide_eq_true (by first | (with_reducible assumption) | assumption); have q138 : x12_2 < (x7_2.length : Int) := of_decide_eq_true (by first | (with_reducible assumption) | assumption); obtain ⟨ad138, e138, hx138_0⟩ := Kd.at_int (Kd.R_reads' HO_7.out).2.2 x12_2 p138 q138; obtain rfl : ad130 = ad138 := (by injection e138); replace p138 := eq_true p138; replace q138 := eq_true q138; have p51 : 0 ≤ (x12_2 : Int) := of_decide_eq_true (by first | (with_reducible assumption) | assumption); have q51 : (x12_2 : Int) < ((x7_2.length : Int) : Int) := of_decide_eq_true (by first | (with_reducible assumption) | assumption); obtain ⟨go51, co51, eo51, gb51, gl51, cl51, HG51⟩ := Kd.R_form HO_7.out (by omega); (first | cases eo51 | (injection eo51 with ea_ en_ ec_; (first | subst ea_ | (injection ea_ with ea_; subst ea_)); subst ec_; clear en_)); have GB51 := Aside0.mk gb51; have GG51 := Aside0.mk HG51; clear gb51 gl51 HG51; (first | simp only [add_plain] at hx130_0 | skip); (first | simp only [add_plain] at hx137_0 | skip); (first | simp only [add_plain] at hx138_0 | skip); obtain ⟨hx51_0, hf51_0⟩ := Kd.R_celln 0 HO_7.out (x12_2 : Int) p51 q51; replace p51 := eq_true p51; replace q51 := eq_true q51; obtain ⟨hy55_, hz55_⟩ := Kd.R_celln 0 HO_7.out (x12_2 : Int) (of_decide_eq_true (by first | (with_reducible assumption) | assumption)) (of_decide_eq_true (by first | (with_reducible assumption) | assumption)); have HP55 := Kd.R_putg HO_7.out (x12_2 : Int) ji50) | ((with_reducible refine gate_store (t := 3) (p := 94) rfl ?_); (try (rw [drewN_self wr]; generalize hq_ : World.drewN wr _ = wr; have n0_ := Aside0.mk (Kd.R_at hq_ HO_7.out); have n1_ := Aside0.mk (blk_at hq_ BK117.out); have n2_ := Aside0.mk (blk_at hq_ BK128.out); have n3_ := Aside0.mk (below_at hq_ HB.out); clear hq_ HO_7 BK117 BK128 HB; have HO_7 := n0_; have BK117 := n1_; have BK128 := n2_; have HB := n3_; clear n0_ n1_ n2_ n3_; (try (obtain ⟨hy55_, hz55_⟩ := Kd.R_celln 0 HO_7.out (x12_2 : Int) (of_decide_eq_true (by first | (with_reducible assumption) | assumption)) (of_decide_eq_true (by first | (with_reducible assumption) | assumption)))); (try (have HP55 := Kd.R_putg HO_7.out (x12_2 : Int) ji50)))); refine store_event (t := 3) (p := 94) (v := ?vo_w56) (w1 := (wr.setCell ⟨go51, (x12_2 : Int).toNat, none⟩ (.int .i64 ji50))) ?hg ?ho ?hn ?hr ?_; (case ho => rfl); (case hg => rfl); (case hn => rfl); (case hr => first | (go_simp; done) | (go_simp; rfl)); intro w56 hw; have hg : wr.grownBy w56 (some go51) := (by rw [hw]; exact HP55.2); have hp_ : Kd.R (Kd.int .i64) 3 w56 w.heap.size (fun _ => True) (.slice (some ⟨go51, 0, none⟩) x7_2.length co54) y139 := (by rw [hw, Ny139.out]; exact HP55.1); clear HP55; have n0_ := Aside0.mk (hp_); have n1_ := Aside0.mk (blk_grown (g := gb117) (o := .cells #[.slice A0_0 l0_0.length c0_0, .slice (some ad127) l0_1.length c0_1] 73 (0, 0)) (by (with_reducible repeat (first | refine blk_drewN ?_ _ | refine blk_drew ?_ | refine blk_alloc ?_ _)); exact BK117.out) hg (Kd.R_ne HO_7.out BK117.out (by decide))); have n2_ := Aside0.mk (blk_grown (g := gb128) (o := .cells #[.int .i64 ((rd_T122 l0_1 x32_1).f0), .int .i64 ((rd_T122 l0_1 x32_1).f1), .int .i64 ((rd_T122 l0_1 x32_1).f2)] 122 (0, 0)) (by (with_reducible repeat (first | refine blk_drewN ?_ _ | refine blk_drew ?_ | refine blk_alloc ?_ _)); exact BK128.out) hg (Kd.R_ne HO_7.out BK128.out (by decide))); have n3_ := Aside0.mk ((by rw [hw]; exact below_set (HB.out) GB51.out : Below w.heap.size w w56)); clear HO_7; clear BK117; clear BK128; clear HB; have HO_7 := n0_; have BK117 := n1_; have BK128 := n2_; have HB := n3_; clear n0_ n1_ n2_ n3_; clear hg hw hp_))
                                repeat (go_quiet (first | (go_at_call 99; (with_reducible refine (weak_next.calls x9_2 t129 _ A19.out).mono ?_); rintro e w' ⟨rfl, ⟨nd, rfl⟩⟩; (try first | exact ⟨rfl, _, World.drewN_drewN _ _ _⟩ | exact ⟨rfl, _, Eq.trans (World.drewN_drewN _ _ _) (congrArg (World.drewN _) (Nat.add_assoc _ _ _))⟩); obtain ⟨Ao54, co54, eo54⟩ := Kd.R_slice HO_7.out; subst eo54; have p130 : 0 ≤ (x12_2 : Int) := of_decide_eq_true (by first | (with_reducible assumption) | assumption); have q130 : x12_2 < (x7_2.length : Int) := of_decide_eq_true (by first | (with_reducible assumption) | assumption); obtain ⟨ad130, e130, hx130_0⟩ := Kd.at_int (Kd.R_reads' HO_7.out).2.2 x12_2 p130 q130; cases e130; replace p130 := eq_true p130; replace q130 := eq_true q130; have p137 : 0 ≤ ((ji47) : Int) := of_decide_eq_true (by first | (with_reducible assumption) | assumption); have q137 : (ji47) < (x7_2.length : Int) := of_decide_eq_true (by first | (with_reducible assumption) | assumption); obtain ⟨ad137, e137, hx137_0⟩ := Kd.at_int (Kd.R_reads' HO_7.out).2.2 (ji47) p137 q137; obtain rfl : ad130 = ad137 := (by injection e137); replace p137 := eq_true p137; replace q137 := eq_true q137; have p138 : 0 ≤ (x12_2 : Int) := of_decide_eq_true (by first | (with_reducible assumption) | assumption); have q138 : x12_2 < (x7_2.length : Int) := of_decide_eq_true (by first | (with_reducible assumption) | assumption); obtain ⟨ad138, e138, hx138_0⟩ := Kd.at_int (Kd.R_reads' HO_7.out).2.2 x12_2 p138 q138; obtain rfl : ad130 = ad138 := (by injection e138); replace p138 := eq_true p138; replace q138 := eq_true q138; have p51 : 0 ≤ (x12_2 : Int) := of_decide_eq_true (by first | (with_reducible assumption) | assumption); have q51 : (x12_2 : Int) < ((x7_2.length : Int) : Int) := of_decide_eq_true (by first | (with_reducible assumption) | assumption); obtain ⟨go51, co51, eo51, gb51, gl51, cl51, HG51⟩ := Kd.R_form HO_7.out (by omega); (first | cases eo51 | (injection eo51 with ea_ en_ ec_; (first | subst ea_ | (injection ea_ with ea_; subst ea_)); subst ec_; clear en_)); have GB51 := Aside0.mk gb51; have GG51 := Aside0.mk HG51; clear gb51 gl51 HG51; (first | simp only [add_plain] at hx130_0 | skip); (first | simp only [add_plain] at hx137_0 | skip); (first | simp only [add_plain] at hx138_0 | skip); obtain ⟨hx51_0, hf51_0⟩ := Kd.R_celln 0 HO_7.out (x12_2 : Int) p51 q51; replace p51 := eq_true p51; replace q51 := eq_true q51; obtain ⟨hy55_, hz55_⟩ := Kd.R_celln 0 HO_7.out (x12_2 : Int) (of_decide_eq_true (by first | (with_reducible assumption) | assumption)) (of_decide_eq_true (by first | (with_reducible assumption) | assumption)); have HP55 := Kd.R_putg HO_7.out (x12_2 : Int) ji50) | ((with_reducible refine gate_store (t := 3) (p := 94) rfl ?_); (try (rw [drewN_self wr]; generalize hq_ : World.drewN wr _ = wr; have n0_ := Aside0.mk (Kd.R_at hq_ HO_7.out); have n1_ := Aside0.mk (blk_at hq_ BK117.out); have n2_ := Aside0.mk (blk_at hq_ BK128.out); have n3_ := Aside0.mk (below_at hq_ HB.out); clear hq_ HO_7 BK117 BK128 HB; have HO_7 := n0_; have BK117 := n1_; have BK128 := n2_; have HB := n3_; clear n0_ n1_ n2_ n3_; (try (obtain ⟨hy55_, hz55_⟩ := Kd.R_celln 0 HO_7.out (x12_2 : Int) (of_decide_eq_true (by first | (with_reducible assumption) | assumption)) (of_decide_eq_true (by first | (with_reducible assumption) | assumption)))); (try (have HP55 := Kd.R_putg HO_7.out (x12_2 : Int) ji50)))); refine store_event (t := 3) (p := 94) (v := ?vo_w56) (w1 := (wr.setCell ⟨go51, (x12_2 : Int).toNat, none⟩ (.int .i64 ji50))) ?hg ?ho ?hn ?hr ?_; (case ho => rfl); (case hg => rfl); (case hn => rfl); (case hr => first | (go_simp; done) | (go_simp; rfl)); intro w56 hw; have hg : wr.grownBy w56 (some go51) := (by rw [hw]; exact HP55.2); have hp_ : Kd.R (Kd.int .i64) 3 w56 w.heap.size (fun _ => True) (.slice (some ⟨go51, 0, none⟩) x7_2.length co54) y139 := (by rw [hw, Ny139.out]; exact HP55.1); clear HP55; have n0_ := Aside0.mk (hp_); have n1_ := Aside0.mk (blk_grown (g := gb117) (o := .cells #[.slice A0_0 l0_0.length c0_0, .slice (some ad127) l0_1.length c0_1] 73 (0, 0)) (by (with_reducible repeat (first | refine blk_drewN ?_ _ | refine blk_drew ?_ | refine blk_alloc ?_ _)); exact BK117.out) hg (Kd.R_ne HO_7.out BK117.out (by decide))); have n2_ := Aside0.mk (blk_grown (g := gb128) (o := .cells #[.int .i64 ((rd_T122 l0_1 x32_1).f0), .int .i64 ((rd_T122 l0_1 x32_1).f1), .int .i64 ((rd_T122 l0_1 x32_1).f2)] 122 (0, 0)) (by (with_reducible repeat (first | refine blk_drewN ?_ _ | refine blk_drew ?_ | refine blk_alloc ?_ _)); exact BK128.out) hg (Kd.R_ne HO_7.out BK128.out (by decide))); have n3_ := Aside0.mk ((by rw [hw]; exact below_set (HB.out) GB51.out : Below w.heap.size w w56)); clear HO_7; clear BK117; clear BK128; clear HB; have HO_7 := n0_; have BK117 := n1_; have BK128 := n2_; have HB := n3_; clear n0_ n1_ n2_ n3_; clear hg hw hp_)); try go_wp2_with (first | (go_at_call 99; (with_reducible refine (weak_next.calls x9_2 t129 _ A19.out).mono ?_); rintro e w' ⟨rfl, ⟨nd, rfl⟩⟩; (try first | exact ⟨rfl, _, World.drewN_drewN _ _ _⟩ | exact ⟨rfl, _, Eq.trans (World.drewN_drewN _ _ _) (congrArg (World.drewN _) (Nat.add_assoc _ _ _))⟩); obtain ⟨Ao54, co54, eo54⟩ := Kd.R_slice HO_7.out; subst eo54; have p130 : 0 ≤ (x12_2 : Int) := of_decide_eq_true (by first | (with_reducible assumption) | assumption); have q130 : x12_2 < (x7_2.length : Int) := of_decide_eq_true (by first | (with_reducible assumption) | assumption); obtain ⟨ad130, e130, hx130_0⟩ := Kd.at_int (Kd.R_reads' HO_7.out).2.2 x12_2 p130 q130; cases e130; replace p130 := eq_true p130; replace q130 := eq_true q130; have p137 : 0 ≤ ((ji47) : Int) := of_decide_eq_true (by first | (with_reducible assumption) | assumption); have q137 : (ji47) < (x7_2.length : Int) := of_decide_eq_true (by first | (with_reducible assumption) | assumption); obtain ⟨ad137, e137, hx137_0⟩ := Kd.at_int (Kd.R_reads' HO_7.out).2.2 (ji47) p137 q137; obtain rfl : ad130 = ad137 := (by injection e137); replace p137 := eq_true p137; replace q137 := eq_true q137; have p138 : 0 ≤ (x12_2 : Int) := of_decide_eq_true (by first | (with_reducible assumption) | assumption); have q138 : x12_2 < (x7_2.length : Int) := of_decide_eq_true (by first | (with_reducible assumption) | assumption); obtain ⟨ad138, e138, hx138_0⟩ := Kd.at_int (Kd.R_reads' HO_7.out).2.2 x12_2 p138 q138; obtain rfl : ad130 = ad138 := (by injection e138); replace p138 := eq_true p138; replace q138 := eq_true q138; have p51 : 0 ≤ (x12_2 : Int) := of_decide_eq_true (by first | (with_reducible assumption) | assumption); have q51 : (x12_2 : Int) < ((x7_2.length : Int) : Int) := of_decide_eq_true (by first | (with_reducible assumption) | assumption); obtain ⟨go51, co51, eo51, gb51, gl51, cl51, HG51⟩ := Kd.R_form HO_7.out (by omega); (first | cases eo51 | (injection eo51 with ea_ en_ ec_; (first | subst ea_ | (injection ea_ with ea_; subst ea_)); subst ec_; clear en_)); have GB51 := Aside0.mk gb51; have GG51 := Aside0.mk HG51; clear gb51 gl51 HG51; (first | simp only [add_plain] at hx130_0 | skip); (first | simp only [add_plain] at hx137_0 | skip); (first | simp only [add_plain] at hx138_0 | skip); obtain ⟨hx51_0, hf51_0⟩ := Kd.R_celln 0 HO_7.out (x12_2 : Int) p51 q51; replace p51 := eq_true p51; replace q51 := eq_true q51; obtain ⟨hy55_, hz55_⟩ := Kd.R_celln 0 HO_7.out (x12_2 : Int) (of_decide_eq_true (by first | (with_reducible assumption) | assumption)) (of_decide_eq_true (by first | (with_reducible assumption) | assumption)); have HP55 := Kd.R_putg HO_7.out (x12_2 : Int) ji50) | ((with_reducible refine gate_store (t := 3) (p := 94) rfl ?_); (try (rw [drewN_self wr]; generalize hq_ : World.drewN wr _ = wr; have n0_ := Aside0.mk (Kd.R_at hq_ HO_7.out); have n1_ := Aside0.mk (blk_at hq_ BK117.out); have n2_ := Aside0.mk (blk_at hq_ BK128.out); have n3_ := Aside0.mk (below_at hq_ HB.out); clear hq_ HO_7 BK117 BK128 HB; have HO_7 := n0_; have BK117 := n1_; have BK128 := n2_; have HB := n3_; clear n0_ n1_ n2_ n3_; (try (obtain ⟨hy55_, hz55_⟩ := Kd.R_celln 0 HO_7.out (x12_2 : Int) (of_decide_eq_true (by first | (with_reducible assumption) | assumption)) (of_decide_eq_true (by first | (with_reducible assumption) | assumption)))); (try (have HP55 := Kd.R_putg HO_7.out (x12_2 : Int) ji50)))); refine store_event (t := 3) (p := 94) (v := ?vo_w56) (w1 := (wr.setCell ⟨go51, (x12_2 : Int).toNat, none⟩ (.int .i64 ji50))) ?hg ?ho ?hn ?hr ?_; (case ho => rfl); (case hg => rfl); (case hn => rfl); (case hr => first | (go_simp; done) | (go_simp; rfl)); intro w56 hw; have hg : wr.grownBy w56 (some go51) := (by rw [hw]; exact HP55.2); have hp_ : Kd.R (Kd.int .i64) 3 w56 w.heap.size (fun _ => True) (.slice (some ⟨go51, 0, none⟩) x7_2.length co54) y139 := (by rw [hw, Ny139.out]; exact HP55.1); clear HP55; have n0_ := Aside0.mk (hp_); have n1_ := Aside0.mk (blk_grown (g := gb117) (o := .cells #[.slice A0_0 l0_0.length c0_0, .slice (some ad127) l0_1.length c0_1] 73 (0, 0)) (by (with_reducible repeat (first | refine blk_drewN ?_ _ | refine blk_drew ?_ | refine blk_alloc ?_ _)); exact BK117.out) hg (Kd.R_ne HO_7.out BK117.out (by decide))); have n2_ := Aside0.mk (blk_grown (g := gb128) (o := .cells #[.int .i64 ((rd_T122 l0_1 x32_1).f0), .int .i64 ((rd_T122 l0_1 x32_1).f1), .int .i64 ((rd_T122 l0_1 x32_1).f2)] 122 (0, 0)) (by (with_reducible repeat (first | refine blk_drewN ?_ _ | refine blk_drew ?_ | refine blk_alloc ?_ _)); exact BK128.out) hg (Kd.R_ne HO_7.out BK128.out (by decide))); have n3_ := Aside0.mk ((by rw [hw]; exact below_set (HB.out) GB51.out : Below w.heap.size w w56)); clear HO_7; clear BK117; clear BK128; clear HB; have HO_7 := n0_; have BK117 := n1_; have BK128 := n2_; have HB := n3_; clear n0_ n1_ n2_ n3_; clear hg hw hp_)))
                                go_roundg k2
                                case measure => have := HK1.out; have := HK2.out; omega
                                case rel => exact ⟨(y139), (t129), (ji47), (by first | rfl | (simp; done) | (simp [*]; done)), (by first | rfl | (simp; done) | (simp only [← hji47] <;> (first | rfl | simp)) | (simp [*]; done)), H', ⟨by have := HK1.out; have := HK2.out; omega⟩, ⟨by (with_reducible repeat (first | apply Kd.R_alloc | apply Kd.R_drewN | apply Kd.R_drew)); exact HO_7.out⟩, ⟨by (with_reducible repeat (first | refine blk_drewN ?_ _ | refine blk_drew ?_ | refine blk_alloc ?_ _)); exact BK117.out⟩, ⟨by (with_reducible repeat (first | refine blk_drewN ?_ _ | refine blk_drew ?_ | refine blk_alloc ?_ _)); exact BK128.out⟩, ⟨by repeat (first | (with_reducible first | exact HB.out | apply below_alloc | apply pw_below_drewN | apply below_drew1 | refine below_set ?_ GE117.out | refine below_set ?_ GE128.out) | exact HB.out)⟩⟩
                              · rw [if_neg c48] at H
                                exact absurd H (by simp)
                            · rw [if_neg c46] at H
                              have c46b0 : decide ((wrap64 (x12_2 + 1)) < (x7_2.length : Int)) = false := decide_eq_false c46
                              clear c46
                              obtain ⟨ji57, hji57⟩ : ∃ j_ : Int, (mn (wrap64 ((rd x7_2 x12_2) + 100000)) (wrap64 ((rd x7_2 x12_2) + (wrap64 ((wrap64 (Int.tmod (t129 / 8589934592) (IntKind.u64.wrap (wrap64 ((wrap64 (2 * ((rd_T122 l0_1 x32_1).f2))) + 1))))) - ((rd_T122 l0_1 x32_1).f2)))))) = j_ := ⟨_, rfl⟩
                              replace H : (weak_Read.l1 k2 (x7_2.set (x12_2 : Int).toNat (mx 1 (ji57))) t129 (wrap64 (x12_2 + 1)) l0_1 (l0_1.length : Int) x32_1 ((rd_T122 l0_1 x32_1).f0) ((rd_T122 l0_1 x32_1).f1) ((rd_T122 l0_1 x32_1).f2)) = some (r1, r2) := by first | (rw [hji57] at H; exact H) | (simp only [hji57] at H ⊢; exact H)
                              (try rw [hji57] at A19)
                              have hji57_ : (if (wrap64 ((rd x7_2 x12_2) + (wrap64 ((wrap64 (Int.tmod (t129 / 8589934592) (IntKind.u64.wrap (wrap64 ((wrap64 (2 * ((rd_T122 l0_1 x32_1).f2))) + 1))))) - ((rd_T122 l0_1 x32_1).f2))))) < (wrap64 ((rd x7_2 x12_2) + 100000)) then (wrap64 ((rd x7_2 x12_2) + (wrap64 ((wrap64 (Int.tmod (t129 / 8589934592) (IntKind.u64.wrap (wrap64 ((wrap64 (2 * ((rd_T122 l0_1 x32_1).f2))) + 1))))) - ((rd_T122 l0_1 x32_1).f2))))) else (wrap64 ((rd x7_2 x12_2) + 100000))) = ji57 := hji57
                              obtain ⟨ji58, hji58⟩ : ∃ j_ : Int, (mx 1 (ji57)) = j_ := ⟨_, rfl⟩
                              replace H : (weak_Read.l1 k2 (x7_2.set (x12_2 : Int).toNat (ji58)) t129 (wrap64 (x12_2 + 1)) l0_1 (l0_1.length : Int) x32_1 ((rd_T122 l0_1 x32_1).f0) ((rd_T122 l0_1 x32_1).f1) ((rd_T122 l0_1 x32_1).f2)) = some (r1, r2) := by first | (rw [hji58] at H; exact H) | (simp only [hji58] at H ⊢; exact H)
                              (try rw [hji58] at A19)
                              have hji58_ : (if 1 < (ji57) then (ji57) else 1) = ji58 := hji58
                              obtain ⟨y141, hy141⟩ : ∃ y_ : List Int, y_ = (x7_2.set (x12_2 : Int).toNat (ji58)) := ⟨_, rfl⟩
                              replace H : (weak_Read.l1 k2 y141 t129 (wrap64 (x12_2 + 1)) l0_1 (l0_1.length : Int) x32_1 ((rd_T122 l0_1 x32_1).f0) ((rd_T122 l0_1 x32_1).f1) ((rd_T122 l0_1 x32_1).f2)) = some (r1, r2) := by first | (rw [hy141]; with_reducible exact H) | (have H2_ := (Option.bind_some _ _).symm.trans H; rw [hy141]; with_reducible exact H2_) | (have H2_ := (Option.bind_some _ _).symm.trans H; with_reducible exact H2_) | with_reducible exact H | (rw [hy141]; exact H) | exact H
                              have Ny141 := Aside0.mk hy141
                              clear hy141
                              have H' := Aside0.mk H
                              clear H
                              have hnb60 := NB128_117.out
                              have hnc60 := NB117_128.out
                              have hcz61_0 : wr.cell? ⟨gb128, 0, none⟩ = some (.int .i64 ((rd_T122 l0_1 x32_1).f0)) := (blk_cell BK128.out 0).trans rfl
                              have hcz61_1 : wr.cell? ⟨gb128, 1, none⟩ = some (.int .i64 ((rd_T122 l0_1 x32_1).f1)) := (blk_cell BK128.out 1).trans rfl
                              have hcz61_2 : wr.cell? ⟨gb128, 2, none⟩ = some (.int .i64 ((rd_T122 l0_1 x32_1).f2)) := (blk_cell BK128.out 2).trans rfl
                              have hfz61_0 := blk_frozen BK128.out 0
                              have hfz61_1 := blk_frozen BK128.out 1
                              have hfz61_2 := blk_frozen BK128.out 2
                              go_wp2_with (first | (go_at_call 99; (with_reducible refine (weak_next.calls x9_2 t129 _ A19.out).mono ?_); rintro e w' ⟨rfl, ⟨nd, rfl⟩⟩; (try first | exact ⟨rfl, _, World.drewN_drewN _ _ _⟩ | exact ⟨rfl, _, Eq.trans (World.drewN_drewN _ _ _) (congrArg (World.drewN _) (Nat.add_assoc _ _ _))⟩); obtain ⟨Ao62, co62, eo62⟩ := Kd.R_slice HO_7.out; subst eo62; have p130 : 0 ≤ (x12_2 : Int) := of_decide_eq_true (by first | (with_reducible assumption) | assumption); have q130 : x12_2 < (x7_2.length : Int) := of_decide_eq_true (by first | (with_reducible assumption) | assumption); obtain ⟨ad130, e130, hx130_0⟩ := Kd.at_int (Kd.R_reads' HO_7.out).2.2 x12_2 p130 q130; cases e130; replace p130 := eq_true p130; replace q130 := eq_true q130; have p140 : 0 ≤ (x12_2 : Int) := of_decide_eq_true (by first | (with_reducible assumption) | assumption); have q140 : x12_2 < (x7_2.length : Int) := of_decide_eq_true (by first | (with_reducible assumption) | assumption); obtain ⟨ad140, e140, hx140_0⟩ := Kd.at_int (Kd.R_reads' HO_7.out).2.2 x12_2 p140 q140; obtain rfl : ad130 = ad140 := (by injection e140); replace p140 := eq_true p140; replace q140 := eq_true q140; have p59 : 0 ≤ (x12_2 : Int) := of_decide_eq_true (by first | (with_reducible assumption) | assumption); have q59 : (x12_2 : Int) < ((x7_2.length : Int) : Int) := of_decide_eq_true (by first | (with_reducible assumption) | assumption); obtain ⟨go59, co59, eo59, gb59, gl59, cl59, HG59⟩ := Kd.R_form HO_7.out (by omega); (first | cases eo59 | (injection eo59 with ea_ en_ ec_; (first | subst ea_ | (injection ea_ with ea_; subst ea_)); subst ec_; clear en_)); have GB59 := Aside0.mk gb59; have GG59 := Aside0.mk HG59; clear gb59 gl59 HG59; (first | simp only [add_plain] at hx130_0 | skip); (first | simp only [add_plain] at hx140_0 | skip); obtain ⟨hx59_0, hf59_0⟩ := Kd.R_celln 0 HO_7.out (x12_2 : Int) p59 q59; replace p59 := eq_true p59; replace q59 := eq_true q59; obtain ⟨hy63_, hz63_⟩ := Kd.R_celln 0 HO_7.out (x12_2 : Int) (of_decide_eq_true (by first | (with_reducible assumption) | assumption)) (of_decide_eq_true (by first | (with_reducible assumption) | assumption)); have HP63 := Kd.R_putg HO_7.out (x12_2 : Int) ji58) | ((with_reducible refine gate_store (t := 3) (p := 94) rfl ?_); (try (rw [drewN_self wr]; generalize hq_ : World.drewN wr _ = wr; have n0_ := Aside0.mk (Kd.R_at hq_ HO_7.out); have n1_ := Aside0.mk (blk_at hq_ BK117.out); have n2_ := Aside0.mk (blk_at hq_ BK128.out); have n3_ := Aside0.mk (below_at hq_ HB.out); clear hq_ HO_7 BK117 BK128 HB; have HO_7 := n0_; have BK117 := n1_; have BK128 := n2_; have HB := n3_; clear n0_ n1_ n2_ n3_; (try (obtain ⟨hy63_, hz63_⟩ := Kd.R_celln 0 HO_7.out (x12_2 : Int) (of_decide_eq_true (by first | (with_reducible assumption) | assumption)) (of_decide_eq_true (by first | (with_reducible assumption) | assumption)))); (try (have HP63 := Kd.R_putg HO_7.out (x12_2 : Int) ji58)))); refine store_event (t := 3) (p := 94) (v := ?vo_w64) (w1 := (wr.setCell ⟨go59, (x12_2 : Int).toNat, none⟩ (.int .i64 ji58))) ?hg ?ho ?hn ?hr ?_; (case ho => rfl); (case hg => rfl); (case hn => rfl); (case hr => first | (go_simp; done) | (go_simp; rfl)); intro w64 hw; have hg : wr.grownBy w64 (some go59) := (by rw [hw]; exact HP63.2); have hp_ : Kd.R (Kd.int .i64) 3 w64 w.heap.size (fun _ => True) (.slice (some ⟨go59, 0, none⟩) x7_2.length co62) y141 := (by rw [hw, Ny141.out]; exact HP63.1); clear HP63; have n0_ := Aside0.mk (hp_); have n1_ := Aside0.mk (blk_grown (g := gb117) (o := .cells #[.slice A0_0 l0_0.length c0_0, .slice (some ad127) l0_1.length c0_1] 73 (0, 0)) (by (with_reducible repeat (first | refine blk_drewN ?_ _ | refine blk_drew ?_ | refine blk_alloc ?_ _)); exact BK117.out) hg (Kd.R_ne HO_7.out BK117.out (by decide))); have n2_ := Aside0.mk (blk_grown (g := gb128) (o := .cells #[.int .i64 ((rd_T122 l0_1 x32_1).f0), .int .i64 ((rd_T122 l0_1 x32_1).f1), .int .i64 ((rd_T122 l0_1 x32_1).f2)] 122 (0, 0)) (by (with_reducible repeat (first | refine blk_drewN ?_ _ | refine blk_drew ?_ | refine blk_alloc ?_ _)); exact BK128.out) hg (Kd.R_ne HO_7.out BK128.out (by decide))); have n3_ := Aside0.mk ((by rw [hw]; exact below_set (HB.out) GB59.out : Below w.heap.size w w64)); clear HO_7; clear BK117; clear BK128; clear HB; have HO_7 := n0_; have BK117 := n1_; have BK128 := n2_; have HB := n3_; clear n0_ n1_ n2_ n3_; clear hg hw hp_))
                              repeat (go_quiet (first | (go_at_call 99; (with_reducible refine (weak_next.calls x9_2 t129 _ A19.out).mono ?_); rintro e w' ⟨rfl, ⟨nd, rfl⟩⟩; (try first | exact ⟨rfl, _, World.drewN_drewN _ _ _⟩ | exact ⟨rfl, _, Eq.trans (World.drewN_drewN _ _ _) (congrArg (World.drewN _) (Nat.add_assoc _ _ _))⟩); obtain ⟨Ao62, co62, eo62⟩ := Kd.R_slice HO_7.out; subst eo62; have p130 : 0 ≤ (x12_2 : Int) := of_decide_eq_true (by first | (with_reducible assumption) | assumption); have q130 : x12_2 < (x7_2.length : Int) := of_decide_eq_true (by first | (with_reducible assumption) | assumption); obtain ⟨ad130, e130, hx130_0⟩ := Kd.at_int (Kd.R_reads' HO_7.out).2.2 x12_2 p130 q130; cases e130; replace p130 := eq_true p130; replace q130 := eq_true q130; have p140 : 0 ≤ (x12_2 : Int) := of_decide_eq_true (by first | (with_reducible assumption) | assumption); have q140 : x12_2 < (x7_2.length : Int) := of_decide_eq_true (by first | (with_reducible assumption) | assumption); obtain ⟨ad140, e140, hx140_0⟩ := Kd.at_int (Kd.R_reads' HO_7.out).2.2 x12_2 p140 q140; obtain rfl : ad130 = ad140 := (by injection e140); replace p140 := eq_true p140; replace q140 := eq_true q140; have p59 : 0 ≤ (x12_2 : Int) := of_decide_eq_true (by first | (with_reducible assumption) | assumption); have q59 : (x12_2 : Int) < ((x7_2.length : Int) : Int) := of_decide_eq_true (by first | (with_reducible assumption) | assumption); obtain ⟨go59, co59, eo59, gb59, gl59, cl59, HG59⟩ := Kd.R_form HO_7.out (by omega); (first | cases eo59 | (injection eo59 with ea_ en_ ec_; (first | subst ea_ | (injection ea_ with ea_; subst ea_)); subst ec_; clear en_)); have GB59 := Aside0.mk gb59; have GG59 := Aside0.mk HG59; clear gb59 gl59 HG59; (first | simp only [add_plain] at hx130_0 | skip); (first | simp only [add_plain] at hx140_0 | skip); obtain ⟨hx59_0, hf59_0⟩ := Kd.R_celln 0 HO_7.out (x12_2 : Int) p59 q59; replace p59 := eq_true p59; replace q59 := eq_true q59; obtain ⟨hy63_, hz63_⟩ := Kd.R_celln 0 HO_7.out (x12_2 : Int) (of_decide_eq_true (by first | (with_reducible assumption) | assumption)) (of_decide_eq_true (by first | (with_reducible assumption) | assumption)); have HP63 := Kd.R_putg HO_7.out (x12_2 : Int) ji58) | ((with_reducible refine gate_store (t := 3) (p := 94) rfl ?_); (try (rw [drewN_self wr]; generalize hq_ : World.drewN wr _ = wr; have n0_ := Aside0.mk (Kd.R_at hq_ HO_7.out); have n1_ := Aside0.mk (blk_at hq_ BK117.out); have n2_ := Aside0.mk (blk_at hq_ BK128.out); have n3_ := Aside0.mk (below_at hq_ HB.out); clear hq_ HO_7 BK117 BK128 HB; have HO_7 := n0_; have BK117 := n1_; have BK128 := n2_; have HB := n3_; clear n0_ n1_ n2_ n3_; (try (obtain ⟨hy63_, hz63_⟩ := Kd.R_celln 0 HO_7.out (x12_2 : Int) (of_decide_eq_true (by first | (with_reducible assumption) | assumption)) (of_decide_eq_true (by first | (with_reducible assumption) | assumption)))); (try (have HP63 := Kd.R_putg HO_7.out (x12_2 : Int) ji58)))); refine store_event (t := 3) (p := 94) (v := ?vo_w64) (w1 := (wr.setCell ⟨go59, (x12_2 : Int).toNat, none⟩ (.int .i64 ji58))) ?hg ?ho ?hn ?hr ?_; (case ho => rfl); (case hg => rfl); (case hn => rfl); (case hr => first | (go_simp; done) | (go_simp; rfl)); intro w64 hw; have hg : wr.grownBy w64 (some go59) := (by rw [hw]; exact HP63.2); have hp_ : Kd.R (Kd.int .i64) 3 w64 w.heap.size (fun _ => True) (.slice (some ⟨go59, 0, none⟩) x7_2.length co62) y141 := (by rw [hw, Ny141.out]; exact HP63.1); clear HP63; have n0_ := Aside0.mk (hp_); have n1_ := Aside0.mk (blk_grown (g := gb117) (o := .cells #[.slice A0_0 l0_0.length c0_0, .slice (some ad127) l0_1.length c0_1] 73 (0, 0)) (by (with_reducible repeat (first | refine blk_drewN ?_ _ | refine blk_drew ?_ | refine blk_alloc ?_ _)); exact BK117.out) hg (Kd.R_ne HO_7.out BK117.out (by decide))); have n2_ := Aside0.mk (blk_grown (g := gb128) (o := .cells #[.int .i64 ((rd_T122 l0_1 x32_1).f0), .int .i64 ((rd_T122 l0_1 x32_1).f1), .int .i64 ((rd_T122 l0_1 x32_1).f2)] 122 (0, 0)) (by (with_reducible repeat (first | refine blk_drewN ?_ _ | refine blk_drew ?_ | refine blk_alloc ?_ _)); exact BK128.out) hg (Kd.R_ne HO_7.out BK128.out (by decide))); have n3_ := Aside0.mk ((by rw [hw]; exact below_set (HB.out) GB59.out : Below w.heap.size w w64)); clear HO_7; clear BK117; clear BK128; clear HB; have HO_7 := n0_; have BK117 := n1_; have BK128 := n2_; have HB := n3_; clear n0_ n1_ n2_ n3_; clear hg hw hp_)); try go_wp2_with (first | (go_at_call 99; (with_reducible refine (weak_next.calls x9_2 t129 _ A19.out).mono ?_); rintro e w' ⟨rfl, ⟨nd, rfl⟩⟩; (try first | exact ⟨rfl, _, World.drewN_drewN _ _ _⟩ | exact ⟨rfl, _, Eq.trans (World.drewN_drewN _ _ _) (congrArg (World.drewN _) (Nat.add_assoc _ _ _))⟩); obtain ⟨Ao62, co62, eo62⟩ := Kd.R_slice HO_7.out; subst eo62; have p130 : 0 ≤ (x12_2 : Int) := of_decide_eq_true (by first | (with_reducible assumption) | assumption); have q130 : x12_2 < (x7_2.length : Int) := of_decide_eq_true (by first | (with_reducible assumption) | assumption); obtain ⟨ad130, e130, hx130_0⟩ := Kd.at_int (Kd.R_reads' HO_7.out).2.2 x12_2 p130 q130; cases e130; replace p130 := eq_true p130; replace q130 := eq_true q130; have p140 : 0 ≤ (x12_2 : Int) := of_decide_eq_true (by first | (with_reducible assumption) | assumption); have q140 : x12_2 < (x7_2.length : Int) := of_decide_eq_true (by first | (with_reducible assumption) | assumption); obtain ⟨ad140, e140, hx140_0⟩ := Kd.at_int (Kd.R_reads' HO_7.out).2.2 x12_2 p140 q140; obtain rfl : ad130 = ad140 := (by injection e140); replace p140 := eq_true p140; replace q140 := eq_true q140; have p59 : 0 ≤ (x12_2 : Int) := of_decide_eq_true (by first | (with_reducible assumption) | assumption); have q59 : (x12_2 : Int) < ((x7_2.length : Int) : Int) := of_decide_eq_true (by first | (with_reducible assumption) | assumption); obtain ⟨go59, co59, eo59, gb59, gl59, cl59, HG59⟩ := Kd.R_form HO_7.out (by omega); (first | cases eo59 | (injection eo59 with ea_ en_ ec_; (first | subst ea_ | (injection ea_ with ea_; subst ea_)); subst ec_; clear en_)); have GB59 := Aside0.mk gb59; have GG59 := Aside0.mk HG59; clear gb59 gl59 HG59; (first | simp only [add_plain] at hx130_0 | skip); (first | simp only [add_plain] at hx140_0 | skip); obtain ⟨hx59_0, hf59_0⟩ := Kd.R_celln 0 HO_7.out (x12_2 : Int) p59 q59; replace p59 := eq_true p59; replace q59 := eq_true q59; obtain ⟨hy63_, hz63_⟩ := Kd.R_celln 0 HO_7.out (x12_2 : Int) (of_decide_eq_true (by first | (with_reducible assumption) | assumption)) (of_decide_eq_true (by first | (with_reducible assumption) | assumption)); have HP63 := Kd.R_putg HO_7.out (x12_2 : Int) ji58) | ((with_reducible refine gate_store (t := 3) (p := 94) rfl ?_); (try (rw [drewN_self wr]; generalize hq_ : World.drewN wr _ = wr; have n0_ := Aside0.mk (Kd.R_at hq_ HO_7.out); have n1_ := Aside0.mk (blk_at hq_ BK117.out); have n2_ := Aside0.mk (blk_at hq_ BK128.out); have n3_ := Aside0.mk (below_at hq_ HB.out); clear hq_ HO_7 BK117 BK128 HB; have HO_7 := n0_; have BK117 := n1_; have BK128 := n2_; have HB := n3_; clear n0_ n1_ n2_ n3_; (try (obtain ⟨hy63_, hz63_⟩ := Kd.R_celln 0 HO_7.out (x12_2 : Int) (of_decide_eq_true (by first | (with_reducible assumption) | assumption)) (of_decide_eq_true (by first | (with_reducible assumption) | assumption)))); (try (have HP63 := Kd.R_putg HO_7.out (x12_2 : Int) ji58)))); refine store_event (t := 3) (p := 94) (v := ?vo_w64) (w1 := (wr.setCell ⟨go59, (x12_2 : Int).toNat, none⟩ (.int .i64 ji58))) ?hg ?ho ?hn ?hr ?_; (case ho => rfl); (case hg => rfl); (case hn => rfl); (case hr => first | (go_simp; done) | (go_simp; rfl)); intro w64 hw; have hg : wr.grownBy w64 (some go59) := (by rw [hw]; exact HP63.2); have hp_ : Kd.R (Kd.int .i64) 3 w64 w.heap.size (fun _ => True) (.slice (some ⟨go59, 0, none⟩) x7_2.length co62) y141 := (by rw [hw, Ny141.out]; exact HP63.1); clear HP63; have n0_ := Aside0.mk (hp_); have n1_ := Aside0.mk (blk_grown (g := gb117) (o := .cells #[.slice A0_0 l0_0.length c0_0, .slice (some ad127) l0_1.length c0_1] 73 (0, 0)) (by (with_reducible repeat (first | refine blk_drewN ?_ _ | refine blk_drew ?_ | refine blk_alloc ?_ _)); exact BK117.out) hg (Kd.R_ne HO_7.out BK117.out (by decide))); have n2_ := Aside0.mk (blk_grown (g := gb128) (o := .cells #[.int .i64 ((rd_T122 l0_1 x32_1).f0), .int .i64 ((rd_T122 l0_1 x32_1).f1), .int .i64 ((rd_T122 l0_1 x32_1).f2)] 122 (0, 0)) (by (with_reducible repeat (first | refine blk_drewN ?_ _ | refine blk_drew ?_ | refine blk_alloc ?_ _)); exact BK128.out) hg (Kd.R_ne HO_7.out BK128.out (by decide))); have n3_ := Aside0.mk ((by rw [hw]; exact below_set (HB.out) GB59.out : Below w.heap.size w w64)); clear HO_7; clear BK117; clear BK128; clear HB; have HO_7 := n0_; have BK117 := n1_; have BK128 := n2_; have HB := n3_; clear n0_ n1_ n2_ n3_; clear hg hw hp_)))
                              go_roundg k2
                              case measure => have := HK1.out; have := HK2.out; omega
                              case rel => exact ⟨(y141), (t129), (wrap64 (x12_2 + 1)), (by first | rfl | (simp; done) | (simp [*]; done)), (by first | rfl | (simp; done) | (simp [*]; done)), H', ⟨by have := HK1.out; have := HK2.out; omega⟩, ⟨by (with_reducible repeat (first | apply Kd.R_alloc | apply Kd.R_drewN | apply Kd.R_drew)); exact HO_7.out⟩, ⟨by (with_reducible repeat (first | refine blk_drewN ?_ _ | refine blk_drew ?_ | refine blk_alloc ?_ _)); exact BK117.out⟩, ⟨by (with_reducible repeat (first | refine blk_drewN ?_ _ | refine blk_drew ?_ | refine blk_alloc ?_ _)); exact BK128.out⟩, ⟨by repeat (first | (with_reducible first | exact HB.out | apply below_alloc | apply pw_below_drewN | apply below_drew1 | refine below_set ?_ GE117.out | refine below_set ?_ GE128.out) | exact HB.out)⟩⟩
                        · rw [if_neg c22] at H
                          exact absurd H (by simp)
                      · rw [if_neg c21] at H
                        exact absurd H (by simp)
                  · rw [if_neg c18] at H
                    have c18b0 : decide (x12_2 < ((rd_T122 l0_1 x32_1).f1)) = false := decide_eq_false c18
                    clear c18
                    have H' := Aside0.mk H
                    clear H
                    have hnb65 := NB128_117.out
                    have hnc65 := NB117_128.out
                    have hcz66_0 : wr.cell? ⟨gb128, 0, none⟩ = some (.int .i64 ((rd_T122 l0_1 x32_1).f0)) := (blk_cell BK128.out 0).trans rfl
                    have hcz66_1 : wr.cell? ⟨gb128, 1, none⟩ = some (.int .i64 ((rd_T122 l0_1 x32_1).f1)) := (blk_cell BK128.out 1).trans rfl
                    have hcz66_2 : wr.cell? ⟨gb128, 2, none⟩ = some (.int .i64 ((rd_T122 l0_1 x32_1).f2)) := (blk_cell BK128.out 2).trans rfl
                    have hfz66_0 := blk_frozen BK128.out 0
                    have hfz66_1 := blk_frozen BK128.out 1
                    have hfz66_2 := blk_frozen BK128.out 2
                    go_wp2
                    repeat (go_quiet (fail); try go_wp2)
                    go_roundg k2
                    case measure => have := HK1.out; have := HK2.out; omega
                    case rel => exact ⟨(x7_2), (x9_2), (wrap64 (x32_1 + 1)), (by first | rfl | (simp; done) | (simp [*]; done)), (by first | rfl | (simp; done) | (simp [*]; done)), H', ⟨by have := HK1.out; have := HK2.out; omega⟩, ⟨by (with_reducible repeat (first | apply Kd.R_alloc | apply Kd.R_drewN | apply Kd.R_drew)); exact HO_7.out⟩, ⟨by (with_reducible repeat (first | refine blk_drewN ?_ _ | refine blk_drew ?_ | refine blk_alloc ?_ _)); exact BK117.out⟩, ⟨by repeat (first | (with_reducible first | exact HB.out | apply below_alloc | apply pw_below_drewN | apply below_drew1 | refine below_set ?_ GE117.out | refine below_set ?_ GE128.out) | exact HB.out)⟩⟩
            · rw [if_neg c14] at H
              exact absurd H (by simp)
          · rw [if_neg c13] at H
            exact absurd H (by simp)
        · rw [if_neg c12] at H
          have c12b0 : decide (x32_1 < (l0_1.length : Int)) = false := decide_eq_false c12
          clear c12
          replace H := Option.bind_eq_some_iff.mp H
          obtain ⟨⟨t123, t124⟩, A670, H⟩ := H
          replace H : (some (t123, t124)) = some (r1, r2) := H
          have A67 := Aside0.mk A670
          clear A670
          simp only [Option.some.injEq, Prod.mk.injEq] at H
          obtain ⟨rfl, rfl⟩ := H
          obtain ⟨Ao68, co68, eo68⟩ := Kd.R_slice HO_7.out
          subst eo68
          go_wp2_with (first | (go_at_call 38; (with_reducible refine (flux_Of.calls k1 _ _ x7_1 t123 t124 _ ?side1 ?side2 A67.out).mono ?_); (case side1 => repeat (first | exact (Kd.R_reads' HO_7.out).2.2 | (with_reducible refine Kd.C_alloc ?_ _) | (with_reducible refine Kd.C_drewN ?_ _) | (with_reducible refine Kd.C_drew ?_))); (case side2 => exact (Kd.R_reads' HO_7.out).2.1); rintro e w69 ⟨v125, rfl, ho0, hb⟩; have n0_ := Aside0.mk (Kd.R_elder' (by (with_reducible repeat (first | apply Kd.R_alloc | apply Kd.R_drewN | apply Kd.R_drew)); exact HO_7.out) (Kd.R_base ho0) hb); have n1_ := Aside0.mk (Kd.R_lower (Kd.R_new' ho0 (Kd.R_lt (by (with_reducible repeat (first | apply Kd.R_alloc | apply Kd.R_drewN | apply Kd.R_drew)); exact HO_7.out))) (below_size (by repeat (first | (with_reducible first | exact HB.out | apply below_alloc | apply pw_below_drewN | apply below_drew1 | refine below_set ?_ GE117.out) | exact HB.out)))); have n2_ := Aside0.mk (blk_below (g := gb117) (o := .cells #[.slice A0_0 l0_0.length c0_0, .slice A0_1 l0_1.length c0_1] 73 (0, 0)) (by (with_reducible repeat (first | refine blk_drewN ?_ _ | refine blk_drew ?_ | refine blk_alloc ?_ _)); exact BK117.out) hb); have n3_ := Aside0.mk (below_step (by repeat (first | (with_reducible first | exact HB.out | apply below_alloc | apply pw_below_drewN | apply below_drew1 | refine below_set ?_ GE117.out) | exact HB.out)) hb); clear HO_7; clear BK117; clear HB; have HO_7 := n0_; have HO126 := n1_; have BK117 := n2_; have HB := n3_; clear n0_ n1_ n2_ n3_; (try clear hb); (try clear hb2); (try clear hk); (try clear hi); (try clear ho0)))
          repeat (go_quiet (first | (go_at_call 38; (with_reducible refine (flux_Of.calls k1 _ _ x7_1 t123 t124 _ ?side1 ?side2 A67.out).mono ?_); (case side1 => repeat (first | exact (Kd.R_reads' HO_7.out).2.2 | (with_reducible refine Kd.C_alloc ?_ _) | (with_reducible refine Kd.C_drewN ?_ _) | (with_reducible refine Kd.C_drew ?_))); (case side2 => exact (Kd.R_reads' HO_7.out).2.1); rintro e w69 ⟨v125, rfl, ho0, hb⟩; have n0_ := Aside0.mk (Kd.R_elder' (by (with_reducible repeat (first | apply Kd.R_alloc | apply Kd.R_drewN | apply Kd.R_drew)); exact HO_7.out) (Kd.R_base ho0) hb); have n1_ := Aside0.mk (Kd.R_lower (Kd.R_new' ho0 (Kd.R_lt (by (with_reducible repeat (first | apply Kd.R_alloc | apply Kd.R_drewN | apply Kd.R_drew)); exact HO_7.out))) (below_size (by repeat (first | (with_reducible first | exact HB.out | apply below_alloc | apply pw_below_drewN | apply below_drew1 | refine below_set ?_ GE117.out) | exact HB.out)))); have n2_ := Aside0.mk (blk_below (g := gb117) (o := .cells #[.slice A0_0 l0_0.length c0_0, .slice A0_1 l0_1.length c0_1] 73 (0, 0)) (by (with_reducible repeat (first | refine blk_drewN ?_ _ | refine blk_drew ?_ | refine blk_alloc ?_ _)); exact BK117.out) hb); have n3_ := Aside0.mk (below_step (by repeat (first | (with_reducible first | exact HB.out | apply below_alloc | apply pw_below_drewN | apply below_drew1 | refine below_set ?_ GE117.out) | exact HB.out)) hb); clear HO_7; clear BK117; clear HB; have HO_7 := n0_; have HO126 := n1_; have BK117 := n2_; have HB := n3_; clear n0_ n1_ n2_ n3_; (try clear hb); (try clear hb2); (try clear hk); (try clear hi); (try clear ho0))); try go_wp2_with (first | (go_at_call 38; (with_reducible refine (flux_Of.calls k1 _ _ x7_1 t123 t124 _ ?side1 ?side2 A67.out).mono ?_); (case side1 => repeat (first | exact (Kd.R_reads' HO_7.out).2.2 | (with_reducible refine Kd.C_alloc ?_ _) | (with_reducible refine Kd.C_drewN ?_ _) | (with_reducible refine Kd.C_drew ?_))); (case side2 => exact (Kd.R_reads' HO_7.out).2.1); rintro e w69 ⟨v125, rfl, ho0, hb⟩; have n0_ := Aside0.mk (Kd.R_elder' (by (with_reducible repeat (first | apply Kd.R_alloc | apply Kd.R_drewN | apply Kd.R_drew)); exact HO_7.out) (Kd.R_base ho0) hb); have n1_ := Aside0.mk (Kd.R_lower (Kd.R_new' ho0 (Kd.R_lt (by (with_reducible repeat (first | apply Kd.R_alloc | apply Kd.R_drewN | apply Kd.R_drew)); exact HO_7.out))) (below_size (by repeat (first | (with_reducible first | exact HB.out | apply below_alloc | apply pw_below_drewN | apply below_drew1 | refine below_set ?_ GE117.out) | exact HB.out)))); have n2_ := Aside0.mk (blk_below (g := gb117) (o := .cells #[.slice A0_0 l0_0.length c0_0, .slice A0_1 l0_1.length c0_1] 73 (0, 0)) (by (with_reducible repeat (first | refine blk_drewN ?_ _ | refine blk_drew ?_ | refine blk_alloc ?_ _)); exact BK117.out) hb); have n3_ := Aside0.mk (below_step (by repeat (first | (with_reducible first | exact HB.out | apply below_alloc | apply pw_below_drewN | apply below_drew1 | refine below_set ?_ GE117.out) | exact HB.out)) hb); clear HO_7; clear BK117; clear HB; have HO_7 := n0_; have HO126 := n1_; have BK117 := n2_; have HB := n3_; clear n0_ n1_ n2_ n3_; (try clear hb); (try clear hb2); (try clear hk); (try clear hi); (try clear ho0))))
          go_ret2
          exact ⟨_, by first | rfl | (simp [errW_none, errW_some] <;> rfl) | (simp [*, errW_none, errW_some] <;> rfl), by (with_reducible repeat (first | apply Kd.R_alloc | apply Kd.R_drewN | apply Kd.R_drew)); exact Kd.R_mono HO126.out (fun _ hk => trivial), by repeat (first | (with_reducible first | exact HB.out | apply below_alloc | apply pw_below_drewN | apply below_drew1 | refine below_set ?_ GE117.out) | exact HB.out)⟩
  · rw [if_neg c4] at H
    have c4b0 : (t118 == 0) = false := beq_eq_false_iff_ne.mpr c4
    have c4b1 : (t118 != 0) = true := bne_iff_ne.mpr c4
    simp only [Option.some.injEq, Prod.mk.injEq] at H
    obtain ⟨rfl, rfl⟩ := H
    go_enter Try.func55, Try.ntmps55
    go_wp2_with (first | ((with_reducible refine gate_dst (N := 2) rfl ?_); refine box_event ?hg (N := 2) ?hd (cs := #[.slice A0_0 l0_0.length c0_0, .slice A0_1 l0_1.length c0_1]) (t := 73) ?hr ?_; (case hd => rfl); (case hg => rfl); (case hr => first | (go_simp; done) | (go_simp; rfl)); intro gb117 hg w70 hbox hb; have n0_ := Aside0.mk (below_step (by repeat (first | (with_reducible first | exact HB.out | apply below_alloc | apply pw_below_drewN | apply below_drew1) | exact HB.out)) hb); have n1_ := Aside0.mk (hbox); have n2_ := Aside0.mk ((by rw [hg]; exact (below_size (by repeat (first | (with_reducible first | exact HB.out | apply below_alloc | apply pw_below_drewN | apply below_drew1) | exact HB.out))) : w.heap.size ≤ gb117)); have n3_ := Aside0.mk ((by rw [hg]; exact (below_size (by repeat (first | (with_reducible first | exact HB.out | apply below_alloc | apply pw_below_drewN | apply below_drew1) | exact HB.out))) : w.heap.size ≤ gb117)); clear HB; have HB := n0_; have BK117 := n1_; have GW117 := n2_; have GE117 := n3_; clear n0_ n1_ n2_ n3_; clear hb hbox hg; have hcz71_0 : w70.cell? ⟨gb117, 0, none⟩ = some (.slice A0_0 l0_0.length c0_0) := (blk_cell BK117.out 0).trans rfl; have hcz71_1 : w70.cell? ⟨gb117, 1, none⟩ = some (.slice A0_1 l0_1.length c0_1) := (blk_cell BK117.out 1).trans rfl; have hfz71_0 := blk_frozen BK117.out 0; have hfz71_1 := blk_frozen BK117.out 1) | (go_at_call 58; (with_reducible refine (weak_Check.calls k _ _ l0_0 _ _ l0_1 t118 _ ?side1 ?side2 ?side3 ?side4 A3.out).mono ?_); (case side1 => repeat (first | exact (Kd.C_below HR0_0.out HB.out) | (with_reducible refine Kd.C_alloc ?_ _) | (with_reducible refine Kd.C_drewN ?_ _) | (with_reducible refine Kd.C_drew ?_))); (case side2 => exact HC0_0.out); (case side3 => repeat (first | exact (Kd.C_below HR0_1.out HB.out) | (with_reducible refine Kd.C_alloc ?_ _) | (with_reducible refine Kd.C_drewN ?_ _) | (with_reducible refine Kd.C_drew ?_))); (case side4 => exact HC0_1.out); rintro e w72 ⟨rfl, hb⟩; have n0_ := Aside0.mk (blk_below (g := gb117) (o := .cells #[.slice A0_0 l0_0.length c0_0, .slice A0_1 l0_1.length c0_1] 73 (0, 0)) (by (with_reducible repeat (first | refine blk_drewN ?_ _ | refine blk_drew ?_ | refine blk_alloc ?_ _)); exact BK117.out) hb); have n1_ := Aside0.mk (below_step (by repeat (first | (with_reducible first | exact HB.out | apply below_alloc | apply pw_below_drewN | apply below_drew1 | refine below_set ?_ GE117.out) | exact HB.out)) hb); clear BK117; clear HB; have BK117 := n0_; have HB := n1_; clear n0_ n1_; (try clear hb); (try clear hb2); (try clear hk); (try clear hi)))
    repeat (go_quiet (first | ((with_reducible refine gate_dst (N := 2) rfl ?_); refine box_event ?hg (N := 2) ?hd (cs := #[.slice A0_0 l0_0.length c0_0, .slice A0_1 l0_1.length c0_1]) (t := 73) ?hr ?_; (case hd => rfl); (case hg => rfl); (case hr => first | (go_simp; done) | (go_simp; rfl)); intro gb117 hg w70 hbox hb; have n0_ := Aside0.mk (below_step (by repeat (first | (with_reducible first | exact HB.out | apply below_alloc | apply pw_below_drewN | apply below_drew1) | exact HB.out)) hb); have n1_ := Aside0.mk (hbox); have n2_ := Aside0.mk ((by rw [hg]; exact (below_size (by repeat (first | (with_reducible first | exact HB.out | apply below_alloc | apply pw_below_drewN | apply below_drew1) | exact HB.out))) : w.heap.size ≤ gb117)); have n3_ := Aside0.mk ((by rw [hg]; exact (below_size (by repeat (first | (with_reducible first | exact HB.out | apply below_alloc | apply pw_below_drewN | apply below_drew1) | exact HB.out))) : w.heap.size ≤ gb117)); clear HB; have HB := n0_; have BK117 := n1_; have GW117 := n2_; have GE117 := n3_; clear n0_ n1_ n2_ n3_; clear hb hbox hg; have hcz71_0 : w70.cell? ⟨gb117, 0, none⟩ = some (.slice A0_0 l0_0.length c0_0) := (blk_cell BK117.out 0).trans rfl; have hcz71_1 : w70.cell? ⟨gb117, 1, none⟩ = some (.slice A0_1 l0_1.length c0_1) := (blk_cell BK117.out 1).trans rfl; have hfz71_0 := blk_frozen BK117.out 0; have hfz71_1 := blk_frozen BK117.out 1) | (go_at_call 58; (with_reducible refine (weak_Check.calls k _ _ l0_0 _ _ l0_1 t118 _ ?side1 ?side2 ?side3 ?side4 A3.out).mono ?_); (case side1 => repeat (first | exact (Kd.C_below HR0_0.out HB.out) | (with_reducible refine Kd.C_alloc ?_ _) | (with_reducible refine Kd.C_drewN ?_ _) | (with_reducible refine Kd.C_drew ?_))); (case side2 => exact HC0_0.out); (case side3 => repeat (first | exact (Kd.C_below HR0_1.out HB.out) | (with_reducible refine Kd.C_alloc ?_ _) | (with_reducible refine Kd.C_drewN ?_ _) | (with_reducible refine Kd.C_drew ?_))); (case side4 => exact HC0_1.out); rintro e w72 ⟨rfl, hb⟩; have n0_ := Aside0.mk (blk_below (g := gb117) (o := .cells #[.slice A0_0 l0_0.length c0_0, .slice A0_1 l0_1.length c0_1] 73 (0, 0)) (by (with_reducible repeat (first | refine blk_drewN ?_ _ | refine blk_drew ?_ | refine blk_alloc ?_ _)); exact BK117.out) hb); have n1_ := Aside0.mk (below_step (by repeat (first | (with_reducible first | exact HB.out | apply below_alloc | apply pw_below_drewN | apply below_drew1 | refine below_set ?_ GE117.out) | exact HB.out)) hb); clear BK117; clear HB; have BK117 := n0_; have HB := n1_; clear n0_ n1_; (try clear hb); (try clear hb2); (try clear hk); (try clear hi))); try go_wp2_with (first | ((with_reducible refine gate_dst (N := 2) rfl ?_); refine box_event ?hg (N := 2) ?hd (cs := #[.slice A0_0 l0_0.length c0_0, .slice A0_1 l0_1.length c0_1]) (t := 73) ?hr ?_; (case hd => rfl); (case hg => rfl); (case hr => first | (go_simp; done) | (go_simp; rfl)); intro gb117 hg w70 hbox hb; have n0_ := Aside0.mk (below_step (by repeat (first | (with_reducible first | exact HB.out | apply below_alloc | apply pw_below_drewN | apply below_drew1) | exact HB.out)) hb); have n1_ := Aside0.mk (hbox); have n2_ := Aside0.mk ((by rw [hg]; exact (below_size (by repeat (first | (with_reducible first | exact HB.out | apply below_alloc | apply pw_below_drewN | apply below_drew1) | exact HB.out))) : w.heap.size ≤ gb117)); have n3_ := Aside0.mk ((by rw [hg]; exact (below_size (by repeat (first | (with_reducible first | exact HB.out | apply below_alloc | apply pw_below_drewN | apply below_drew1) | exact HB.out))) : w.heap.size ≤ gb117)); clear HB; have HB := n0_; have BK117 := n1_; have GW117 := n2_; have GE117 := n3_; clear n0_ n1_ n2_ n3_; clear hb hbox hg; have hcz71_0 : w70.cell? ⟨gb117, 0, none⟩ = some (.slice A0_0 l0_0.length c0_0) := (blk_cell BK117.out 0).trans rfl; have hcz71_1 : w70.cell? ⟨gb117, 1, none⟩ = some (.slice A0_1 l0_1.length c0_1) := (blk_cell BK117.out 1).trans rfl; have hfz71_0 := blk_frozen BK117.out 0; have hfz71_1 := blk_frozen BK117.out 1) | (go_at_call 58; (with_reducible refine (weak_Check.calls k _ _ l0_0 _ _ l0_1 t118 _ ?side1 ?side2 ?side3 ?side4 A3.out).mono ?_); (case side1 => repeat (first | exact (Kd.C_below HR0_0.out HB.out) | (with_reducible refine Kd.C_alloc ?_ _) | (with_reducible refine Kd.C_drewN ?_ _) | (with_reducible refine Kd.C_drew ?_))); (case side2 => exact HC0_0.out); (case side3 => repeat (first | exact (Kd.C_below HR0_1.out HB.out) | (with_reducible refine Kd.C_alloc ?_ _) | (with_reducible refine Kd.C_drewN ?_ _) | (with_reducible refine Kd.C_drew ?_))); (case side4 => exact HC0_1.out); rintro e w72 ⟨rfl, hb⟩; have n0_ := Aside0.mk (blk_below (g := gb117) (o := .cells #[.slice A0_0 l0_0.length c0_0, .slice A0_1 l0_1.length c0_1] 73 (0, 0)) (by (with_reducible repeat (first | refine blk_drewN ?_ _ | refine blk_drew ?_ | refine blk_alloc ?_ _)); exact BK117.out) hb); have n1_ := Aside0.mk (below_step (by repeat (first | (with_reducible first | exact HB.out | apply below_alloc | apply pw_below_drewN | apply below_drew1 | refine below_set ?_ GE117.out) | exact HB.out)) hb); clear BK117; clear HB; have BK117 := n0_; have HB := n1_; clear n0_ n1_; (try clear hb); (try clear hb2); (try clear hk); (try clear hi))))
    go_ret2
    exact ⟨_, by first | rfl | (simp [errW_none, errW_some] <;> rfl) | (simp [*, errW_none, errW_some] <;> rfl), by first | exact Kd.R_nil _ _ _ _ _ | exact Kd.N_nil _ _ _ _ _ | exact Kd.V_nil _ _ _ _ _ | exact Kd.Q_nil _ _ _ _ _ | exact Kd.S_nil _ _ _ _ _, by repeat (first | (with_reducible first | exact HB.out | apply below_alloc | apply pw_below_drewN | apply below_drew1 | refine below_set ?_ GE117.out) | exact HB.out)⟩

-- NOT PRINTED: function 119 (slices_IndexFunc_api_Track_int)

-- NOT PRINTED: function 89 (slices_ContainsFunc_api_Track_int)

/-! ### bakeref2_TrackErr_1: function 90 -/
def bakeref2_TrackErr_1.f (a0 : Int) : Option (Bool) := if a0 ≤ 0 then (some true) else (some (decide (a0 > 100000)))
set_option maxHeartbeats 8000000 in
set_option maxRecDepth 100000 in
theorem bakeref2_TrackErr_1.calls (a0 : Int) (r : Bool) (w : World) (h : bakeref2_TrackErr_1.f a0 = some r) :
    Calls Try.prog 90 #[.int .i64 a0] w fun e w' => e = .returned (.bool r) ∧ Drawn0 w w' := by
  have H : (if a0 ≤ 0 then (some true) else (some (decide (a0 > 100000)))) = some r := h
  clear h
  by_cases c2 : a0 ≤ 0
  · rw [if_pos c2] at H
    have c2b0 : decide (a0 ≤ 0) = true := decide_eq_true c2
    clear c2
    obtain rfl := Option.some.inj H
    go_enter Try.func90, Try.ntmps90
    go_wp2
    go_ret
    exact ⟨by first | rfl | (simp; done) | (simp [*]; done), by repeat (first | exact Drawn0.refl _ | apply Drawn0.step)⟩
  · rw [if_neg c2] at H
    have c2b0 : decide (a0 ≤ 0) = false := decide_eq_false c2
    clear c2
    obtain rfl := Option.some.inj H
    go_enter Try.func90, Try.ntmps90
    go_wp2
    go_ret
    exact ⟨by first | rfl | (simp; done) | (simp [*]; done), by repeat (first | exact Drawn0.refl _ | apply Drawn0.step)⟩

end Go.Proofs.Ytgiodeiibmbhhaa.PWeakReads
