-- Written by this session's own program (wip/mp, over the kit's print) for this claim; Lean checks it.
import Derived.Test.YtgiodeiibmbhhaaPFiveAddsx0
import Derived.Test.YtgiodeiibmbhhaaPFiveAddsx2
namespace Go.Proofs.Ytgiodeiibmbhhaa.PFiveAdds
open Go.RowKit Go.Proofs.YtgiodeiibmbhhaaW.PrintWords Go.Proofs.YtgiodeiibmbhhaaW.PrintLast Go.Proofs.YtgiodeiibmbhhaaW.PrintMore
attribute [local go_sem] max2_int min2_int max_two min_two max_three min_three max_four min_four   -- for this text's walks alone
set_option linter.unusedVariables false
set_option linter.unusedSimpArgs false

/-! ### five_Add: function 59 -/
mutual
def five_Add.j0 : Nat → Bool → Int → Int → Bool → Int → Int → Bool → Option (Int × Int × Int × Int × Int × Int)
  | 0, _, _, _, _, _, _, _ => none
  | k + 1, x7, x8, x9, x10, x11, x12, x52 => if x52 = true then (five_Add.j1 k x10 x11 x12 x7 x8 x9) else (five_Add.j1 k x7 x8 x9 x10 x11 x12)
def five_Add.j1 : Nat → Bool → Int → Int → Bool → Int → Int → Option (Int × Int × Int × Int × Int × Int)
  | 0, _, _, _, _, _, _ => none
  | k + 1, x7, x8, x9, x10, x11, x12 => if (wrap64 (x9 - x12)) > 60 then (five_Add.j2 k x7 (IntKind.u64.wrap (x8 * 16777216)) x9 x10 0 1) else (if 0 ≤ (wrap64 (x9 - x12)) then (if (Go.bits .and .u64 (IntKind.u64.wrap (x11 * 16777216)) (IntKind.u64.wrap ((shl .u64 1 (wrap64 (x9 - x12))) - 1))) = 0 then (five_Add.j2 k x7 (IntKind.u64.wrap (x8 * 16777216)) x9 x10 (shr .u64 (IntKind.u64.wrap (x11 * 16777216)) (wrap64 (x9 - x12))) 0) else (five_Add.j2 k x7 (IntKind.u64.wrap (x8 * 16777216)) x9 x10 (shr .u64 (IntKind.u64.wrap (x11 * 16777216)) (wrap64 (x9 - x12))) 1)) else (none))
def five_Add.j2 : Nat → Bool → Int → Int → Bool → Int → Int → Option (Int × Int × Int × Int × Int × Int)
  | 0, _, _, _, _, _, _ => none
  | k + 1, x7, x8, x9, x10, x11, x14 => if (x7 == x10) = true then ((five_pack.f k x7 (Go.bits .or .u64 (IntKind.u64.wrap ((IntKind.u64.wrap (x8 + x11)) * 2)) x14) (wrap64 (x9 - 25)) false).bind fun bt139 => (some (bt139.1, bt139.2.1, bt139.2.2.1, bt139.2.2.2.1, bt139.2.2.2.2.1, bt139.2.2.2.2.2))) else ((five_pack.f k x7 (IntKind.u64.wrap ((IntKind.u64.wrap ((IntKind.u64.wrap (x8 - x11)) * 2)) - x14)) (wrap64 (x9 - 25)) false).bind fun bt145 => (some (bt145.1, bt145.2.1, bt145.2.2.1, bt145.2.2.2.1, bt145.2.2.2.2.1, bt145.2.2.2.2.2)))
end
def five_Add.f (k : Nat) (a0_0 : Int) (a0_1 : Int) (a0_2 : Int) (a0_3 : Int) (a0_4 : Int) (a1_0 : Int) (a1_1 : Int) (a1_2 : Int) (a1_3 : Int) (a1_4 : Int) : Option (Int × Int × Int × Int × Int × Int) := (five_both.f a0_0 a0_1 a0_2 a0_3 a0_4 a1_0 a1_1 a1_2 a1_3 a1_4).bind fun t132 => (if t132 = 0 then ((five_parts.f a0_0 a0_1 a0_2 a0_3 a0_4).bind fun bt133 => ((five_parts.f a1_0 a1_1 a1_2 a1_3 a1_4).bind fun bt136 => (if bt133.2.1 = 0 then (some (a1_0, a1_1, a1_2, a1_3, a1_4, 0)) else (if bt136.2.1 = 0 then (some (a0_0, a0_1, a0_2, a0_3, a0_4, 0)) else (if bt133.2.2 < bt136.2.2 then (five_Add.j0 k bt133.1 bt133.2.1 bt133.2.2 bt136.1 bt136.2.1 bt136.2.2 true) else (if bt133.2.2 = bt136.2.2 then (five_Add.j0 k bt133.1 bt133.2.1 bt133.2.2 bt136.1 bt136.2.1 bt136.2.2 (decide (bt133.2.1 < bt136.2.1))) else (five_Add.j0 k bt133.1 bt133.2.1 bt133.2.2 bt136.1 bt136.2.1 bt136.2.2 false))))))) else (some (0, 0, 0, 0, 0, t132)))
theorem five_Add.mono_l : ∀ k, (∀ y0 y1 y2 y3 y4 y5 y6, LeO (five_Add.j0 k y0 y1 y2 y3 y4 y5 y6) (five_Add.j0 (k + 1) y0 y1 y2 y3 y4 y5 y6)) ∧ (∀ y0 y1 y2 y3 y4 y5, LeO (five_Add.j1 k y0 y1 y2 y3 y4 y5) (five_Add.j1 (k + 1) y0 y1 y2 y3 y4 y5)) ∧ (∀ y0 y1 y2 y3 y4 y5, LeO (five_Add.j2 k y0 y1 y2 y3 y4 y5) (five_Add.j2 (k + 1) y0 y1 y2 y3 y4 y5))
  | 0 => ⟨fun _ _ _ _ _ _ _ r h => by simp [five_Add.j0] at h, fun _ _ _ _ _ _ r h => by simp [five_Add.j1] at h, fun _ _ _ _ _ _ r h => by simp [five_Add.j2] at h⟩
  | k + 1 => by
    obtain ⟨ih0, ih1, ih2⟩ := five_Add.mono_l k
    refine ⟨?_, ?_, ?_⟩
    · intro y0 y1 y2 y3 y4 y5 y6
      unfold five_Add.j0
      repeat' first
      | (with_reducible exact ih0 _ _ _ _ _ _ _)
      | (with_reducible exact ih1 _ _ _ _ _ _)
      | (with_reducible exact ih2 _ _ _ _ _ _)
      | (with_reducible exact five_pack.mono _ _ _ _ _)
      | (with_reducible exact LeO.refl _)
      | (with_reducible exact LeO.none _)
      | (with_reducible refine LeO.ite ?_ ?_)
      | (with_reducible refine LeO.bind ?_ (fun _ => ?_))
      | exact ih0 _ _ _ _ _ _ _
      | exact ih1 _ _ _ _ _ _
      | exact ih2 _ _ _ _ _ _
      | exact five_pack.mono _ _ _ _ _
      | exact LeO.none _
      | refine LeO.ite ?_ ?_
      | refine LeO.bind ?_ (fun _ => ?_)
    · intro y0 y1 y2 y3 y4 y5
      unfold five_Add.j1
      repeat' first
      | (with_reducible exact ih0 _ _ _ _ _ _ _)
      | (with_reducible exact ih1 _ _ _ _ _ _)
      | (with_reducible exact ih2 _ _ _ _ _ _)
      | (with_reducible exact five_pack.mono _ _ _ _ _)
      | (with_reducible exact LeO.refl _)
      | (with_reducible exact LeO.none _)
      | (with_reducible refine LeO.ite ?_ ?_)
      | (with_reducible refine LeO.bind ?_ (fun _ => ?_))
      | exact ih0 _ _ _ _ _ _ _
      | exact ih1 _ _ _ _ _ _
      | exact ih2 _ _ _ _ _ _
      | exact five_pack.mono _ _ _ _ _
      | exact LeO.none _
      | refine LeO.ite ?_ ?_
      | refine LeO.bind ?_ (fun _ => ?_)
    · intro y0 y1 y2 y3 y4 y5
      unfold five_Add.j2
      repeat' first
      | (with_reducible exact ih0 _ _ _ _ _ _ _)
      | (with_reducible exact ih1 _ _ _ _ _ _)
      | (with_reducible exact ih2 _ _ _ _ _ _)
      | (with_reducible exact five_pack.mono _ _ _ _ _)
      | (with_reducible exact LeO.refl _)
      | (with_reducible exact LeO.none _)
      | (with_reducible refine LeO.ite ?_ ?_)
      | (with_reducible refine LeO.bind ?_ (fun _ => ?_))
      | exact ih0 _ _ _ _ _ _ _
      | exact ih1 _ _ _ _ _ _
      | exact ih2 _ _ _ _ _ _
      | exact five_pack.mono _ _ _ _ _
      | exact LeO.none _
      | refine LeO.ite ?_ ?_
      | refine LeO.bind ?_ (fun _ => ?_)
theorem five_Add.mono : ∀ a0 a1 a2 a3 a4 a5 a6 a7 a8 a9 k, LeO (five_Add.f k a0 a1 a2 a3 a4 a5 a6 a7 a8 a9) (five_Add.f (k + 1) a0 a1 a2 a3 a4 a5 a6 a7 a8 a9) := by
  intro a0 a1 a2 a3 a4 a5 a6 a7 a8 a9 k
  obtain ⟨ih0, ih1, ih2⟩ := five_Add.mono_l k
  unfold five_Add.f
  repeat' first
      | (with_reducible exact ih0 _ _ _ _ _ _ _)
      | (with_reducible exact ih1 _ _ _ _ _ _)
      | (with_reducible exact ih2 _ _ _ _ _ _)
      | (with_reducible exact five_pack.mono _ _ _ _ _)
      | (with_reducible exact LeO.refl _)
      | (with_reducible exact LeO.none _)
      | (with_reducible refine LeO.ite ?_ ?_)
      | (with_reducible refine LeO.bind ?_ (fun _ => ?_))
      | exact ih0 _ _ _ _ _ _ _
      | exact ih1 _ _ _ _ _ _
      | exact ih2 _ _ _ _ _ _
      | exact five_pack.mono _ _ _ _ _
      | exact LeO.none _
      | refine LeO.ite ?_ ?_
      | refine LeO.bind ?_ (fun _ => ?_)
set_option maxHeartbeats 8000000 in
set_option maxRecDepth 100000 in
theorem five_Add.calls (k : Nat) (a0_0 : Int) (a0_1 : Int) (a0_2 : Int) (a0_3 : Int) (a0_4 : Int) (a1_0 : Int) (a1_1 : Int) (a1_2 : Int) (a1_3 : Int) (a1_4 : Int) (r1 : Int) (r2 : Int) (r3 : Int) (r4 : Int) (r5 : Int) (r6 : Int) (w : World) (h : five_Add.f k a0_0 a0_1 a0_2 a0_3 a0_4 a1_0 a1_1 a1_2 a1_3 a1_4 = some (r1, r2, r3, r4, r5, r6)) :
    Calls Try.prog 59 #[.agg #[.int .u8 a0_0, .int .u8 a0_1, .int .u8 a0_2, .int .u8 a0_3, .int .u8 a0_4], .agg #[.int .u8 a1_0, .int .u8 a1_1, .int .u8 a1_2, .int .u8 a1_3, .int .u8 a1_4]] w fun e w' => e = .returned (.tuple #[.agg #[.int .u8 r1, .int .u8 r2, .int .u8 r3, .int .u8 r4, .int .u8 r5], .int .i64 r6]) ∧ Below w.heap.size w w' := by
  have hu57 := Try.underlying57
  have HB := Aside0.mk (Below.refl w.heap.size w)
  have H : ((five_both.f a0_0 a0_1 a0_2 a0_3 a0_4 a1_0 a1_1 a1_2 a1_3 a1_4).bind fun t132 => (if t132 = 0 then ((five_parts.f a0_0 a0_1 a0_2 a0_3 a0_4).bind fun bt133 => ((five_parts.f a1_0 a1_1 a1_2 a1_3 a1_4).bind fun bt136 => (if bt133.2.1 = 0 then (some (a1_0, a1_1, a1_2, a1_3, a1_4, 0)) else (if bt136.2.1 = 0 then (some (a0_0, a0_1, a0_2, a0_3, a0_4, 0)) else (if bt133.2.2 < bt136.2.2 then (five_Add.j0 k bt133.1 bt133.2.1 bt133.2.2 bt136.1 bt136.2.1 bt136.2.2 true) else (if bt133.2.2 = bt136.2.2 then (five_Add.j0 k bt133.1 bt133.2.1 bt133.2.2 bt136.1 bt136.2.1 bt136.2.2 (decide (bt133.2.1 < bt136.2.1))) else (five_Add.j0 k bt133.1 bt133.2.1 bt133.2.2 bt136.1 bt136.2.1 bt136.2.2 false))))))) else (some (0, 0, 0, 0, 0, t132)))) = some (r1, r2, r3, r4, r5, r6) := h
  clear h
  replace H := Option.bind_eq_some_iff.mp H
  obtain ⟨t132, A30, H⟩ := H
  replace H : (if t132 = 0 then ((five_parts.f a0_0 a0_1 a0_2 a0_3 a0_4).bind fun bt133 => ((five_parts.f a1_0 a1_1 a1_2 a1_3 a1_4).bind fun bt136 => (if bt133.2.1 = 0 then (some (a1_0, a1_1, a1_2, a1_3, a1_4, 0)) else (if bt136.2.1 = 0 then (some (a0_0, a0_1, a0_2, a0_3, a0_4, 0)) else (if bt133.2.2 < bt136.2.2 then (five_Add.j0 k bt133.1 bt133.2.1 bt133.2.2 bt136.1 bt136.2.1 bt136.2.2 true) else (if bt133.2.2 = bt136.2.2 then (five_Add.j0 k bt133.1 bt133.2.1 bt133.2.2 bt136.1 bt136.2.1 bt136.2.2 (decide (bt133.2.1 < bt136.2.1))) else (five_Add.j0 k bt133.1 bt133.2.1 bt133.2.2 bt136.1 bt136.2.1 bt136.2.2 false))))))) else (some (0, 0, 0, 0, 0, t132))) = some (r1, r2, r3, r4, r5, r6) := H
  have A3 := Aside0.mk A30
  clear A30
  by_cases c4 : t132 = 0
  · rw [if_pos c4] at H
    have c4b0 : (t132 == 0) = true := beq_iff_eq.mpr c4
    have c4b1 : (t132 != 0) = false := bne_eq_false_iff_eq.mpr c4
    clear c4
    replace H := Option.bind_eq_some_iff.mp H
    obtain ⟨⟨t133, t134, t135⟩, A50, H⟩ := H
    replace H : ((five_parts.f a1_0 a1_1 a1_2 a1_3 a1_4).bind fun bt136 => (if t134 = 0 then (some (a1_0, a1_1, a1_2, a1_3, a1_4, 0)) else (if bt136.2.1 = 0 then (some (a0_0, a0_1, a0_2, a0_3, a0_4, 0)) else (if t135 < bt136.2.2 then (five_Add.j0 k t133 t134 t135 bt136.1 bt136.2.1 bt136.2.2 true) else (if t135 = bt136.2.2 then (five_Add.j0 k t133 t134 t135 bt136.1 bt136.2.1 bt136.2.2 (decide (t134 < bt136.2.1))) else (five_Add.j0 k t133 t134 t135 bt136.1 bt136.2.1 bt136.2.2 false)))))) = some (r1, r2, r3, r4, r5, r6) := H
    have A5 := Aside0.mk A50
    clear A50
    replace H := Option.bind_eq_some_iff.mp H
    obtain ⟨⟨t136, t137, t138⟩, A60, H⟩ := H
    replace H : (if t134 = 0 then (some (a1_0, a1_1, a1_2, a1_3, a1_4, 0)) else (if t137 = 0 then (some (a0_0, a0_1, a0_2, a0_3, a0_4, 0)) else (if t135 < t138 then (five_Add.j0 k t133 t134 t135 t136 t137 t138 true) else (if t135 = t138 then (five_Add.j0 k t133 t134 t135 t136 t137 t138 (decide (t134 < t137))) else (five_Add.j0 k t133 t134 t135 t136 t137 t138 false))))) = some (r1, r2, r3, r4, r5, r6) := H
    have A6 := Aside0.mk A60
    clear A60
    by_cases c7 : t134 = 0
    · rw [if_pos c7] at H
      have c7b0 : (t134 == 0) = true := beq_iff_eq.mpr c7
      have c7b1 : (t134 != 0) = false := bne_eq_false_iff_eq.mpr c7
      clear c7
      simp only [Option.some.injEq, Prod.mk.injEq] at H
      obtain ⟨rfl, rfl, rfl, rfl, rfl, rfl⟩ := H
      go_enter Try.func59, Try.ntmps59
      go_wp2_with (first | ((with_reducible refine gate_dst (N := 2) rfl ?_); refine box_event ?hg (N := 2) ?hd (cs := #[.int .u8 a0_0, .int .u8 a0_1, .int .u8 a0_2, .int .u8 a0_3, .int .u8 a0_4]) (t := 57) ?hr ?_; (case hd => rfl); (case hg => rfl); (case hr => first | (go_simp; done) | (go_simp; rfl)); intro gb129 hg w8 hbox hb; have n0_ := Aside0.mk (below_step (by repeat (first | (with_reducible first | exact HB.out | apply below_alloc | apply pw_below_drewN | apply below_drew1) | exact HB.out)) hb); have n1_ := Aside0.mk (hbox); have n2_ := Aside0.mk ((by rw [hg]; exact (below_size (by repeat (first | (with_reducible first | exact HB.out | apply below_alloc | apply pw_below_drewN | apply below_drew1) | exact HB.out))) : w.heap.size ≤ gb129)); have n3_ := Aside0.mk ((by rw [hg]; exact (below_size (by repeat (first | (with_reducible first | exact HB.out | apply below_alloc | apply pw_below_drewN | apply below_drew1) | exact HB.out))) : w.heap.size ≤ gb129)); clear HB; have HB := n0_; have BK129 := n1_; have GW129 := n2_; have GE129 := n3_; clear n0_ n1_ n2_ n3_; clear hb hbox hg) | ((with_reducible refine gate_dst (N := 3) rfl ?_); refine box_event ?hg (N := 3) ?hd (cs := #[.int .u8 a1_0, .int .u8 a1_1, .int .u8 a1_2, .int .u8 a1_3, .int .u8 a1_4]) (t := 57) ?hr ?_; (case hd => rfl); (case hg => rfl); (case hr => first | (go_simp; done) | (go_simp; rfl)); intro gb130 hg w9 hbox hb; have n0_ := Aside0.mk (blk_below (g := gb129) (o := .cells #[.int .u8 a0_0, .int .u8 a0_1, .int .u8 a0_2, .int .u8 a0_3, .int .u8 a0_4] 57 (0, 0)) (by (with_reducible repeat (first | refine blk_drewN ?_ _ | refine blk_drew ?_ | refine blk_alloc ?_ _)); exact BK129.out) hb); have n1_ := Aside0.mk (below_step (by repeat (first | (with_reducible first | exact HB.out | apply below_alloc | apply pw_below_drewN | apply below_drew1 | refine below_set ?_ GE129.out) | exact HB.out)) hb); have n2_ := Aside0.mk (hbox); have n3_ := Aside0.mk ((by rw [hg]; exact (below_size (by repeat (first | (with_reducible first | exact HB.out | apply below_alloc | apply pw_below_drewN | apply below_drew1 | refine below_set ?_ GE129.out) | exact HB.out))) : w.heap.size ≤ gb130)); have n4_ := Aside0.mk ((by rw [hg]; exact (below_size (by repeat (first | (with_reducible first | exact HB.out | apply below_alloc | apply pw_below_drewN | apply below_drew1 | refine below_set ?_ GE129.out) | exact HB.out))) : w.heap.size ≤ gb130)); have n5_ := Aside0.mk ((by rw [hg]; exact Nat.ne_of_lt (blk_lt (g := gb129) (o := .cells #[.int .u8 a0_0, .int .u8 a0_1, .int .u8 a0_2, .int .u8 a0_3, .int .u8 a0_4] 57 (0, 0)) (by (with_reducible repeat (first | refine blk_drewN ?_ _ | refine blk_drew ?_ | refine blk_alloc ?_ _)); exact BK129.out)) : gb129 ≠ gb130)); have n6_ := Aside0.mk ((by rw [hg]; exact Nat.ne_of_gt (blk_lt (g := gb129) (o := .cells #[.int .u8 a0_0, .int .u8 a0_1, .int .u8 a0_2, .int .u8 a0_3, .int .u8 a0_4] 57 (0, 0)) (by (with_reducible repeat (first | refine blk_drewN ?_ _ | refine blk_drew ?_ | refine blk_alloc ?_ _)); exact BK129.out)) : gb130 ≠ gb129)); clear BK129; clear HB; have BK129 := n0_; have HB := n1_; have BK130 := n2_; have GW130 := n3_; have GE130 := n4_; have NB129_130 := n5_; have NB130_129 := n6_; clear n0_ n1_ n2_ n3_ n4_ n5_ n6_; clear hb hbox hg) | ((with_reducible refine gate_dst (N := 4) rfl ?_); refine box_event ?hg (N := 4) ?hd (cs := #[.int .u8 0, .int .u8 0, .int .u8 0, .int .u8 0, .int .u8 0]) (t := 57) ?hr ?_; (case hd => rfl); (case hg => rfl); (case hr => first | (go_simp; done) | (go_simp; rfl)); intro gb131 hg w10 hbox hb; have n0_ := Aside0.mk (blk_below (g := gb129) (o := .cells #[.int .u8 a0_0, .int .u8 a0_1, .int .u8 a0_2, .int .u8 a0_3, .int .u8 a0_4] 57 (0, 0)) (by (with_reducible repeat (first | refine blk_drewN ?_ _ | refine blk_drew ?_ | refine blk_alloc ?_ _)); exact BK129.out) hb); have n1_ := Aside0.mk (blk_below (g := gb130) (o := .cells #[.int .u8 a1_0, .int .u8 a1_1, .int .u8 a1_2, .int .u8 a1_3, .int .u8 a1_4] 57 (0, 0)) (by (with_reducible repeat (first | refine blk_drewN ?_ _ | refine blk_drew ?_ | refine blk_alloc ?_ _)); exact BK130.out) hb); have n2_ := Aside0.mk (below_step (by repeat (first | (with_reducible first | exact HB.out | apply below_alloc | apply pw_below_drewN | apply below_drew1 | refine below_set ?_ GE129.out | refine below_set ?_ GE130.out) | exact HB.out)) hb); have n3_ := Aside0.mk (hbox); have n4_ := Aside0.mk ((by rw [hg]; exact (below_size (by repeat (first | (with_reducible first | exact HB.out | apply below_alloc | apply pw_below_drewN | apply below_drew1 | refine below_set ?_ GE129.out | refine below_set ?_ GE130.out) | exact HB.out))) : w.heap.size ≤ gb131)); have n5_ := Aside0.mk ((by rw [hg]; exact (below_size (by repeat (first | (with_reducible first | exact HB.out | apply below_alloc | apply pw_below_drewN | apply below_drew1 | refine below_set ?_ GE129.out | refine below_set ?_ GE130.out) | exact HB.out))) : w.heap.size ≤ gb131)); have n6_ := Aside0.mk ((by rw [hg]; exact Nat.ne_of_lt (blk_lt (g := gb129) (o := .cells #[.int .u8 a0_0, .int .u8 a0_1, .int .u8 a0_2, .int .u8 a0_3, .int .u8 a0_4] 57 (0, 0)) (by (with_reducible repeat (first | refine blk_drewN ?_ _ | refine blk_drew ?_ | refine blk_alloc ?_ _)); exact BK129.out)) : gb129 ≠ gb131)); have n7_ := Aside0.mk ((by rw [hg]; exact Nat.ne_of_gt (blk_lt (g := gb129) (o := .cells #[.int .u8 a0_0, .int .u8 a0_1, .int .u8 a0_2, .int .u8 a0_3, .int .u8 a0_4] 57 (0, 0)) (by (with_reducible repeat (first | refine blk_drewN ?_ _ | refine blk_drew ?_ | refine blk_alloc ?_ _)); exact BK129.out)) : gb131 ≠ gb129)); have n8_ := Aside0.mk ((by rw [hg]; exact Nat.ne_of_lt (blk_lt (g := gb130) (o := .cells #[.int .u8 a1_0, .int .u8 a1_1, .int .u8 a1_2, .int .u8 a1_3, .int .u8 a1_4] 57 (0, 0)) (by (with_reducible repeat (first | refine blk_drewN ?_ _ | refine blk_drew ?_ | refine blk_alloc ?_ _)); exact BK130.out)) : gb130 ≠ gb131)); have n9_ := Aside0.mk ((by rw [hg]; exact Nat.ne_of_gt (blk_lt (g := gb130) (o := .cells #[.int .u8 a1_0, .int .u8 a1_1, .int .u8 a1_2, .int .u8 a1_3, .int .u8 a1_4] 57 (0, 0)) (by (with_reducible repeat (first | refine blk_drewN ?_ _ | refine blk_drew ?_ | refine blk_alloc ?_ _)); exact BK130.out)) : gb131 ≠ gb130)); clear BK129; clear BK130; clear HB; have BK129 := n0_; have BK130 := n1_; have HB := n2_; have BK131 := n3_; have GW131 := n4_; have GE131 := n5_; have NB129_131 := n6_; have NB131_129 := n7_; have NB130_131 := n8_; have NB131_130 := n9_; clear n0_ n1_ n2_ n3_ n4_ n5_ n6_ n7_ n8_ n9_; clear hb hbox hg; have hnb11 := NB129_130.out; have hnc11 := NB130_129.out; have hnb12 := NB129_131.out; have hnc12 := NB131_129.out; have hcz13_0 : w10.cell? ⟨gb129, 0, none⟩ = some (.int .u8 a0_0) := (blk_cell BK129.out 0).trans rfl; have hcz13_1 : w10.cell? ⟨gb129, 1, none⟩ = some (.int .u8 a0_1) := (blk_cell BK129.out 1).trans rfl; have hcz13_2 : w10.cell? ⟨gb129, 2, none⟩ = some (.int .u8 a0_2) := (blk_cell BK129.out 2).trans rfl; have hcz13_3 : w10.cell? ⟨gb129, 3, none⟩ = some (.int .u8 a0_3) := (blk_cell BK129.out 3).trans rfl; have hcz13_4 : w10.cell? ⟨gb129, 4, none⟩ = some (.int .u8 a0_4) := (blk_cell BK129.out 4).trans rfl; have hfz13_0 := blk_frozen BK129.out 0; have hfz13_1 := blk_frozen BK129.out 1; have hfz13_2 := blk_frozen BK129.out 2; have hfz13_3 := blk_frozen BK129.out 3; have hfz13_4 := blk_frozen BK129.out 4; have hnb14 := NB130_131.out; have hnc14 := NB131_130.out; have hcz15_0 : w10.cell? ⟨gb130, 0, none⟩ = some (.int .u8 a1_0) := (blk_cell BK130.out 0).trans rfl; have hcz15_1 : w10.cell? ⟨gb130, 1, none⟩ = some (.int .u8 a1_1) := (blk_cell BK130.out 1).trans rfl; have hcz15_2 : w10.cell? ⟨gb130, 2, none⟩ = some (.int .u8 a1_2) := (blk_cell BK130.out 2).trans rfl; have hcz15_3 : w10.cell? ⟨gb130, 3, none⟩ = some (.int .u8 a1_3) := (blk_cell BK130.out 3).trans rfl; have hcz15_4 : w10.cell? ⟨gb130, 4, none⟩ = some (.int .u8 a1_4) := (blk_cell BK130.out 4).trans rfl; have hfz15_0 := blk_frozen BK130.out 0; have hfz15_1 := blk_frozen BK130.out 1; have hfz15_2 := blk_frozen BK130.out 2; have hfz15_3 := blk_frozen BK130.out 3; have hfz15_4 := blk_frozen BK130.out 4) | ((with_reducible refine gate_callee (f := 103) rfl ?_); refine goesL_ (some 17) rfl rfl Try.func103 (by kernel_rfl) rfl #[.agg #[.int .u8 a0_0, .int .u8 a0_1, .int .u8 a0_2, .int .u8 a0_3, .int .u8 a0_4], .agg #[.int .u8 a1_0, .int .u8 a1_1, .int .u8 a1_2, .int .u8 a1_3, .int .u8 a1_4]] rfl (by (try simp only [List.map_toArray, List.map_cons, List.map_nil]); first | done | rfl | (simp only [List.length_drop, List.length_take]; rfl)) ?_; (with_reducible refine (five_both.calls a0_0 a0_1 a0_2 a0_3 a0_4 a1_0 a1_1 a1_2 a1_3 a1_4 t132 _ A3.out).mono ?_); rintro e w16 ⟨rfl, hb⟩; refine ⟨_, rfl, ?_⟩; have n0_ := Aside0.mk (blk_below (g := gb129) (o := .cells #[.int .u8 a0_0, .int .u8 a0_1, .int .u8 a0_2, .int .u8 a0_3, .int .u8 a0_4] 57 (0, 0)) (by (with_reducible repeat (first | refine blk_drewN ?_ _ | refine blk_drew ?_ | refine blk_alloc ?_ _)); exact BK129.out) hb); have n1_ := Aside0.mk (blk_below (g := gb130) (o := .cells #[.int .u8 a1_0, .int .u8 a1_1, .int .u8 a1_2, .int .u8 a1_3, .int .u8 a1_4] 57 (0, 0)) (by (with_reducible repeat (first | refine blk_drewN ?_ _ | refine blk_drew ?_ | refine blk_alloc ?_ _)); exact BK130.out) hb); have n2_ := Aside0.mk (blk_below (g := gb131) (o := .cells #[.int .u8 0, .int .u8 0, .int .u8 0, .int .u8 0, .int .u8 0] 57 (0, 0)) (by (with_reducible repeat (first | refine blk_drewN ?_ _ | refine blk_drew ?_ | refine blk_alloc ?_ _)); exact BK131.out) hb); have n3_ := Aside0.mk (below_step (by repeat (first | (with_reducible first | exact HB.out | apply below_alloc | apply pw_below_drewN | apply below_drew1 | refine below_set ?_ GE129.out | refine below_set ?_ GE130.out | refine below_set ?_ GE131.out) | exact HB.out)) hb); clear BK129; clear BK130; clear BK131; clear HB; have BK129 := n0_; have BK130 := n1_; have BK131 := n2_; have HB := n3_; clear n0_ n1_ n2_ n3_; (try clear hb); (try clear hb2); (try clear hk); (try clear hi); have hcz17_0 : w16.cell? ⟨gb129, 0, none⟩ = some (.int .u8 a0_0) := (blk_cell BK129.out 0).trans rfl; have hcz17_1 : w16.cell? ⟨gb129, 1, none⟩ = some (.int .u8 a0_1) := (blk_cell BK129.out 1).trans rfl; have hcz17_2 : w16.cell? ⟨gb129, 2, none⟩ = some (.int .u8 a0_2) := (blk_cell BK129.out 2).trans rfl; have hcz17_3 : w16.cell? ⟨gb129, 3, none⟩ = some (.int .u8 a0_3) := (blk_cell BK129.out 3).trans rfl; have hcz17_4 : w16.cell? ⟨gb129, 4, none⟩ = some (.int .u8 a0_4) := (blk_cell BK129.out 4).trans rfl; have hfz17_0 := blk_frozen BK129.out 0; have hfz17_1 := blk_frozen BK129.out 1; have hfz17_2 := blk_frozen BK129.out 2; have hfz17_3 := blk_frozen BK129.out 3; have hfz17_4 := blk_frozen BK129.out 4) | ((with_reducible refine gate_callee (f := 94) rfl ?_); refine goesL_ (some 24) rfl rfl Try.func94 (by kernel_rfl) rfl #[.agg #[.int .u8 a0_0, .int .u8 a0_1, .int .u8 a0_2, .int .u8 a0_3, .int .u8 a0_4]] rfl (by (try simp only [List.map_toArray, List.map_cons, List.map_nil]); first | done | rfl | (simp only [List.length_drop, List.length_take]; rfl)) ?_; (with_reducible refine (five_parts.calls a0_0 a0_1 a0_2 a0_3 a0_4 t133 t134 t135 _ A5.out).mono ?_); rintro e w18 ⟨rfl, hb⟩; refine ⟨_, rfl, ?_⟩; have n0_ := Aside0.mk (blk_below (g := gb129) (o := .cells #[.int .u8 a0_0, .int .u8 a0_1, .int .u8 a0_2, .int .u8 a0_3, .int .u8 a0_4] 57 (0, 0)) (by (with_reducible repeat (first | refine blk_drewN ?_ _ | refine blk_drew ?_ | refine blk_alloc ?_ _)); exact BK129.out) hb); have n1_ := Aside0.mk (blk_below (g := gb130) (o := .cells #[.int .u8 a1_0, .int .u8 a1_1, .int .u8 a1_2, .int .u8 a1_3, .int .u8 a1_4] 57 (0, 0)) (by (with_reducible repeat (first | refine blk_drewN ?_ _ | refine blk_drew ?_ | refine blk_alloc ?_ _)); exact BK130.out) hb); have n2_ := Aside0.mk (blk_below (g := gb131) (o := .cells #[.int .u8 0, .int .u8 0, .int .u8 0, .int .u8 0, .int .u8 0] 57 (0, 0)) (by (with_reducible repeat (first | refine blk_drewN ?_ _ | refine blk_drew ?_ | refine blk_alloc ?_ _)); exact BK131.out) hb); have n3_ := Aside0.mk (below_step (by repeat (first | (with_reducible first | exact HB.out | apply below_alloc | apply pw_below_drewN | apply below_drew1 | refine below_set ?_ GE129.out | refine below_set ?_ GE130.out | refine below_set ?_ GE131.out) | exact HB.out)) hb); clear BK129; clear BK130; clear BK131; clear HB; have BK129 := n0_; have BK130 := n1_; have BK131 := n2_; have HB := n3_; clear n0_ n1_ n2_ n3_; (try clear hb); (try clear hb2); (try clear hk); (try clear hi); have hcz19_0 : w18.cell? ⟨gb130, 0, none⟩ = some (.int .u8 a1_0) := (blk_cell BK130.out 0).trans rfl; have hcz19_1 : w18.cell? ⟨gb130, 1, none⟩ = some (.int .u8 a1_1) := (blk_cell BK130.out 1).trans rfl; have hcz19_2 : w18.cell? ⟨gb130, 2, none⟩ = some (.int .u8 a1_2) := (blk_cell BK130.out 2).trans rfl; have hcz19_3 : w18.cell? ⟨gb130, 3, none⟩ = some (.int .u8 a1_3) := (blk_cell BK130.out 3).trans rfl; have hcz19_4 : w18.cell? ⟨gb130, 4, none⟩ = some (.int .u8 a1_4) := (blk_cell BK130.out 4).trans rfl; have hfz19_0 := blk_frozen BK130.out 0; have hfz19_1 := blk_frozen BK130.out 1; have hfz19_2 := blk_frozen BK130.out 2; have hfz19_3 := blk_frozen BK130.out 3; have hfz19_4 := blk_frozen BK130.out 4) | ((with_reducible refine gate_callee (f := 94) rfl ?_); refine goesL_ (some 30) rfl rfl Try.func94 (by kernel_rfl) rfl #[.agg #[.int .u8 a1_0, .int .u8 a1_1, .int .u8 a1_2, .int .u8 a1_3, .int .u8 a1_4]] rfl (by (try simp only [List.map_toArray, List.map_cons, List.map_nil]); first | done | rfl | (simp only [List.length_drop, List.length_take]; rfl)) ?_; (with_reducible refine (five_parts.calls a1_0 a1_1 a1_2 a1_3 a1_4 t136 t137 t138 _ A6.out).mono ?_); rintro e w20 ⟨rfl, hb⟩; refine ⟨_, rfl, ?_⟩; have n0_ := Aside0.mk (blk_below (g := gb129) (o := .cells #[.int .u8 a0_0, .int .u8 a0_1, .int .u8 a0_2, .int .u8 a0_3, .int .u8 a0_4] 57 (0, 0)) (by (with_reducible repeat (first | refine blk_drewN ?_ _ | refine blk_drew ?_ | refine blk_alloc ?_ _)); exact BK129.out) hb); have n1_ := Aside0.mk (blk_below (g := gb130) (o := .cells #[.int .u8 a1_0, .int .u8 a1_1, .int .u8 a1_2, .int .u8 a1_3, .int .u8 a1_4] 57 (0, 0)) (by (with_reducible repeat (first | refine blk_drewN ?_ _ | refine blk_drew ?_ | refine blk_alloc ?_ _)); exact BK130.out) hb); have n2_ := Aside0.mk (blk_below (g := gb131) (o := .cells #[.int .u8 0, .int .u8 0, .int .u8 0, .int .u8 0, .int .u8 0] 57 (0, 0)) (by (with_reducible repeat (first | refine blk_drewN ?_ _ | refine blk_drew ?_ | refine blk_alloc ?_ _)); exact BK131.out) hb); have n3_ := Aside0.mk (below_step (by repeat (first | (with_reducible first | exact HB.out | apply below_alloc | apply pw_below_drewN | apply below_drew1 | refine below_set ?_ GE129.out | refine below_set ?_ GE130.out | refine below_set ?_ GE131.out) | exact HB.out)) hb); clear BK129; clear BK130; clear BK131; clear HB; have BK129 := n0_; have BK130 := n1_; have BK131 := n2_; have HB := n3_; clear n0_ n1_ n2_ n3_; (try clear hb); (try clear hb2); (try clear hk); (try clear hi); have hcz21_0 : w20.cell? ⟨gb130, 0, none⟩ = some (.int .u8 a1_0) := (blk_cell BK130.out 0).trans rfl; have hcz21_1 : w20.cell? ⟨gb130, 1, none⟩ = some (.int .u8 a1_1) := (blk_cell BK130.out 1).trans rfl; have hcz21_2 : w20.cell? ⟨gb130, 2, none⟩ = some (.int .u8 a1_2) := (blk_cell BK130.out 2).trans rfl; have hcz21_3 : w20.cell? ⟨gb130, 3, none⟩ = some (.int .u8 a1_3) := (blk_cell BK130.out 3).trans rfl; have hcz21_4 : w20.cell? ⟨gb130, 4, none⟩ = some (.int .u8 a1_4) := (blk_cell BK130.out 4).trans rfl; have hfz21_0 := blk_frozen BK130.out 0; have hfz21_1 := blk_frozen BK130.out 1; have hfz21_2 := blk_frozen BK130.out 2; have hfz21_3 := blk_frozen BK130.out 3; have hfz21_4 := blk_frozen BK130.out 4; have hcz22_0 : w20.cell? ⟨gb131, 0, none⟩ = some (.int .u8 0) := (blk_cell BK131.out 0).trans rfl; have hcz22_1 : w20.cell? ⟨gb131, 1, none⟩ = some (.int .u8 0) := (blk_cell BK131.out 1).trans rfl; have hcz22_2 : w20.cell? ⟨gb131, 2, none⟩ = some (.int .u8 0) := (blk_cell BK131.out 2).trans rfl; have hcz22_3 : w20.cell? ⟨gb131, 3, none⟩ = some (.int .u8 0) := (blk_cell BK131.out 3).trans rfl; have hcz22_4 : w20.cell? ⟨gb131, 4, none⟩ = some (.int .u8 0) := (blk_cell BK131.out 4).trans rfl; have hfz22_0 := blk_frozen BK131.out 0; have hfz22_1 := blk_frozen BK131.out 1; have hfz22_2 := blk_frozen BK131.out 2; have hfz22_3 := blk_frozen BK131.out 3; have hfz22_4 := blk_frozen BK131.out 4))
      refine bodyPost_ret (results_ct rfl _ _ gb131 57 #[.int .u8 a1_0, .int .u8 a1_1, .int .u8 a1_2, .int .u8 a1_3, .int .u8 a1_4] (0, 0) _ rfl (by (with_reducible repeat (first | refine blk_drewN ?_ _ | refine blk_drew ?_ | refine blk_alloc ?_ _)); refine blk_put (cs := #[.int .u8 a1_0, .int .u8 a1_1, .int .u8 a1_2, .int .u8 a1_3, .int .u8 0]) ?_ 4 _ rfl; (with_reducible repeat (first | refine blk_drewN ?_ _ | refine blk_drew ?_ | refine blk_alloc ?_ _)); refine blk_put (cs := #[.int .u8 a1_0, .int .u8 a1_1, .int .u8 a1_2, .int .u8 0, .int .u8 0]) ?_ 3 _ rfl; (with_reducible repeat (first | refine blk_drewN ?_ _ | refine blk_drew ?_ | refine blk_alloc ?_ _)); refine blk_put (cs := #[.int .u8 a1_0, .int .u8 a1_1, .int .u8 0, .int .u8 0, .int .u8 0]) ?_ 2 _ rfl; (with_reducible repeat (first | refine blk_drewN ?_ _ | refine blk_drew ?_ | refine blk_alloc ?_ _)); refine blk_put (cs := #[.int .u8 a1_0, .int .u8 0, .int .u8 0, .int .u8 0, .int .u8 0]) ?_ 1 _ rfl; (with_reducible repeat (first | refine blk_drewN ?_ _ | refine blk_drew ?_ | refine blk_alloc ?_ _)); refine blk_put (cs := #[.int .u8 0, .int .u8 0, .int .u8 0, .int .u8 0, .int .u8 0]) ?_ 0 _ rfl; (with_reducible repeat (first | refine blk_drewN ?_ _ | refine blk_drew ?_ | refine blk_alloc ?_ _)); exact BK131.out) Try.underlying57 rfl (by kernel_rfl)) rfl ?_
      exact ⟨by first | rfl | (simp [errW_none, errW_some] <;> rfl) | (simp [*, errW_none, errW_some] <;> rfl), by repeat (first | (with_reducible first | exact HB.out | apply below_alloc | apply pw_below_drewN | apply below_drew1 | refine below_set ?_ GE129.out | refine below_set ?_ GE130.out | refine below_set ?_ GE131.out) | exact HB.out)⟩
    · rw [if_neg c7] at H
      have c7b0 : (t134 == 0) = false := beq_eq_false_iff_ne.mpr c7
      have c7b1 : (t134 != 0) = true := bne_iff_ne.mpr c7
      by_cases c23 : t137 = 0
      · rw [if_pos c23] at H
        have c23b0 : (t137 == 0) = true := beq_iff_eq.mpr c23
        have c23b1 : (t137 != 0) = false := bne_eq_false_iff_eq.mpr c23
        clear c23
        simp only [Option.some.injEq, Prod.mk.injEq] at H
        obtain ⟨rfl, rfl, rfl, rfl, rfl, rfl⟩ := H
        go_enter Try.func59, Try.ntmps59
        go_wp2_with (first | ((with_reducible refine gate_dst (N := 2) rfl ?_); refine box_event ?hg (N := 2) ?hd (cs := #[.int .u8 a0_0, .int .u8 a0_1, .int .u8 a0_2, .int .u8 a0_3, .int .u8 a0_4]) (t := 57) ?hr ?_; (case hd => rfl); (case hg => rfl); (case hr => first | (go_simp; done) | (go_simp; rfl)); intro gb129 hg w24 hbox hb; have n0_ := Aside0.mk (below_step (by repeat (first | (with_reducible first | exact HB.out | apply below_alloc | apply pw_below_drewN | apply below_drew1) | exact HB.out)) hb); have n1_ := Aside0.mk (hbox); have n2_ := Aside0.mk ((by rw [hg]; exact (below_size (by repeat (first | (with_reducible first | exact HB.out | apply below_alloc | apply pw_below_drewN | apply below_drew1) | exact HB.out))) : w.heap.size ≤ gb129)); have n3_ := Aside0.mk ((by rw [hg]; exact (below_size (by repeat (first | (with_reducible first | exact HB.out | apply below_alloc | apply pw_below_drewN | apply below_drew1) | exact HB.out))) : w.heap.size ≤ gb129)); clear HB; have HB := n0_; have BK129 := n1_; have GW129 := n2_; have GE129 := n3_; clear n0_ n1_ n2_ n3_; clear hb hbox hg) | ((with_reducible refine gate_dst (N := 3) rfl ?_); refine box_event ?hg (N := 3) ?hd (cs := #[.int .u8 a1_0, .int .u8 a1_1, .int .u8 a1_2, .int .u8 a1_3, .int .u8 a1_4]) (t := 57) ?hr ?_; (case hd => rfl); (case hg => rfl); (case hr => first | (go_simp; done) | (go_simp; rfl)); intro gb130 hg w25 hbox hb; have n0_ := Aside0.mk (blk_below (g := gb129) (o := .cells #[.int .u8 a0_0, .int .u8 a0_1, .int .u8 a0_2, .int .u8 a0_3, .int .u8 a0_4] 57 (0, 0)) (by (with_reducible repeat (first | refine blk_drewN ?_ _ | refine blk_drew ?_ | refine blk_alloc ?_ _)); exact BK129.out) hb); have n1_ := Aside0.mk (below_step (by repeat (first | (with_reducible first | exact HB.out | apply below_alloc | apply pw_below_drewN | apply below_drew1 | refine below_set ?_ GE129.out) | exact HB.out)) hb); have n2_ := Aside0.mk (hbox); have n3_ := Aside0.mk ((by rw [hg]; exact (below_size (by repeat (first | (with_reducible first | exact HB.out | apply below_alloc | apply pw_below_drewN | apply below_drew1 | refine below_set ?_ GE129.out) | exact HB.out))) : w.heap.size ≤ gb130)); have n4_ := Aside0.mk ((by rw [hg]; exact (below_size (by repeat (first | (with_reducible first | exact HB.out | apply below_alloc | apply pw_below_drewN | apply below_drew1 | refine below_set ?_ GE129.out) | exact HB.out))) : w.heap.size ≤ gb130)); have n5_ := Aside0.mk ((by rw [hg]; exact Nat.ne_of_lt (blk_lt (g := gb129) (o := .cells #[.int .u8 a0_0, .int .u8 a0_1, .int .u8 a0_2, .int .u8 a0_3, .int .u8 a0_4] 57 (0, 0)) (by (with_reducible repeat (first | refine blk_drewN ?_ _ | refine blk_drew ?_ | refine blk_alloc ?_ _)); exact BK129.out)) : gb129 ≠ gb130)); have n6_ := Aside0.mk ((by rw [hg]; exact Nat.ne_of_gt (blk_lt (g := gb129) (o := .cells #[.int .u8 a0_0, .int .u8 a0_1, .int .u8 a0_2, .int .u8 a0_3, .int .u8 a0_4] 57 (0, 0)) (by (with_reducible repeat (first | refine blk_drewN ?_ _ | refine blk_drew ?_ | refine blk_alloc ?_ _)); exact BK129.out)) : gb130 ≠ gb129)); clear BK129; clear HB; have BK129 := n0_; have HB := n1_; have BK130 := n2_; have GW130 := n3_; have GE130 := n4_; have NB129_130 := n5_; have NB130_129 := n6_; clear n0_ n1_ n2_ n3_ n4_ n5_ n6_; clear hb hbox hg) | ((with_reducible refine gate_dst (N := 4) rfl ?_); refine box_event ?hg (N := 4) ?hd (cs := #[.int .u8 0, .int .u8 0, .int .u8 0, .int .u8 0, .int .u8 0]) (t := 57) ?hr ?_; (case hd => rfl); (case hg => rfl); (case hr => first | (go_simp; done) | (go_simp; rfl)); intro gb131 hg w26 hbox hb; have n0_ := Aside0.mk (blk_below (g := gb129) (o := .cells #[.int .u8 a0_0, .int .u8 a0_1, .int .u8 a0_2, .int .u8 a0_3, .int .u8 a0_4] 57 (0, 0)) (by (with_reducible repeat (first | refine blk_drewN ?_ _ | refine blk_drew ?_ | refine blk_alloc ?_ _)); exact BK129.out) hb); have n1_ := Aside0.mk (blk_below (g := gb130) (o := .cells #[.int .u8 a1_0, .int .u8 a1_1, .int .u8 a1_2, .int .u8 a1_3, .int .u8 a1_4] 57 (0, 0)) (by (with_reducible repeat (first | refine blk_drewN ?_ _ | refine blk_drew ?_ | refine blk_alloc ?_ _)); exact BK130.out) hb); have n2_ := Aside0.mk (below_step (by repeat (first | (with_reducible first | exact HB.out | apply below_alloc | apply pw_below_drewN | apply below_drew1 | refine below_set ?_ GE129.out | refine below_set ?_ GE130.out) | exact HB.out)) hb); have n3_ := Aside0.mk (hbox); have n4_ := Aside0.mk ((by rw [hg]; exact (below_size (by repeat (first | (with_reducible first | exact HB.out | apply below_alloc | apply pw_below_drewN | apply below_drew1 | refine below_set ?_ GE129.out | refine below_set ?_ GE130.out) | exact HB.out))) : w.heap.size ≤ gb131)); have n5_ := Aside0.mk ((by rw [hg]; exact (below_size (by repeat (first | (with_reducible first | exact HB.out | apply below_alloc | apply pw_below_drewN | apply below_drew1 | refine below_set ?_ GE129.out | refine below_set ?_ GE130.out) | exact HB.out))) : w.heap.size ≤ gb131)); have n6_ := Aside0.mk ((by rw [hg]; exact Nat.ne_of_lt (blk_lt (g := gb129) (o := .cells #[.int .u8 a0_0, .int .u8 a0_1, .int .u8 a0_2, .int .u8 a0_3, .int .u8 a0_4] 57 (0, 0)) (by (with_reducible repeat (first | refine blk_drewN ?_ _ | refine blk_drew ?_ | refine blk_alloc ?_ _)); exact BK129.out)) : gb129 ≠ gb131)); have n7_ := Aside0.mk ((by rw [hg]; exact Nat.ne_of_gt (blk_lt (g := gb129) (o := .cells #[.int .u8 a0_0, .int .u8 a0_1, .int .u8 a0_2, .int .u8 a0_3, .int .u8 a0_4] 57 (0, 0)) (by (with_reducible repeat (first | refine blk_drewN ?_ _ | refine blk_drew ?_ | refine blk_alloc ?_ _)); exact BK129.out)) : gb131 ≠ gb129)); have n8_ := Aside0.mk ((by rw [hg]; exact Nat.ne_of_lt (blk_lt (g := gb130) (o := .cells #[.int .u8 a1_0, .int .u8 a1_1, .int .u8 a1_2, .int .u8 a1_3, .int .u8 a1_4] 57 (0, 0)) (by (with_reducible repeat (first | refine blk_drewN ?_ _ | refine blk_drew ?_ | refine blk_alloc ?_ _)); exact BK130.out)) : gb130 ≠ gb131)); have n9_ := Aside0.mk ((by rw [hg]; exact Nat.ne_of_gt (blk_lt (g := gb130) (o := .cells #[.int .u8 a1_0, .int .u8 a1_1, .int .u8 a1_2, .int .u8 a1_3, .int .u8 a1_4] 57 (0, 0)) (by (with_reducible repeat (first | refine blk_drewN ?_ _ | refine blk_drew ?_ | refine blk_alloc ?_ _)); exact BK130.out)) : gb131 ≠ gb130)); clear BK129; clear BK130; clear HB; have BK129 := n0_; have BK130 := n1_; have HB := n2_; have BK131 := n3_; have GW131 := n4_; have GE131 := n5_; have NB129_131 := n6_; have NB131_129 := n7_; have NB130_131 := n8_; have NB131_130 := n9_; clear n0_ n1_ n2_ n3_ n4_ n5_ n6_ n7_ n8_ n9_; clear hb hbox hg; have hnb27 := NB129_130.out; have hnc27 := NB130_129.out; have hnb28 := NB129_131.out; have hnc28 := NB131_129.out; have hcz29_0 : w26.cell? ⟨gb129, 0, none⟩ = some (.int .u8 a0_0) := (blk_cell BK129.out 0).trans rfl; have hcz29_1 : w26.cell? ⟨gb129, 1, none⟩ = some (.int .u8 a0_1) := (blk_cell BK129.out 1).trans rfl; have hcz29_2 : w26.cell? ⟨gb129, 2, none⟩ = some (.int .u8 a0_2) := (blk_cell BK129.out 2).trans rfl; have hcz29_3 : w26.cell? ⟨gb129, 3, none⟩ = some (.int .u8 a0_3) := (blk_cell BK129.out 3).trans rfl; have hcz29_4 : w26.cell? ⟨gb129, 4, none⟩ = some (.int .u8 a0_4) := (blk_cell BK129.out 4).trans rfl; have hfz29_0 := blk_frozen BK129.out 0; have hfz29_1 := blk_frozen BK129.out 1; have hfz29_2 := blk_frozen BK129.out 2; have hfz29_3 := blk_frozen BK129.out 3; have hfz29_4 := blk_frozen BK129.out 4; have hnb30 := NB130_131.out; have hnc30 := NB131_130.out; have hcz31_0 : w26.cell? ⟨gb130, 0, none⟩ = some (.int .u8 a1_0) := (blk_cell BK130.out 0).trans rfl; have hcz31_1 : w26.cell? ⟨gb130, 1, none⟩ = some (.int .u8 a1_1) := (blk_cell BK130.out 1).trans rfl; have hcz31_2 : w26.cell? ⟨gb130, 2, none⟩ = some (.int .u8 a1_2) := (blk_cell BK130.out 2).trans rfl; have hcz31_3 : w26.cell? ⟨gb130, 3, none⟩ = some (.int .u8 a1_3) := (blk_cell BK130.out 3).trans rfl; have hcz31_4 : w26.cell? ⟨gb130, 4, none⟩ = some (.int .u8 a1_4) := (blk_cell BK130.out 4).trans rfl; have hfz31_0 := blk_frozen BK130.out 0; have hfz31_1 := blk_frozen BK130.out 1; have hfz31_2 := blk_frozen BK130.out 2; have hfz31_3 := blk_frozen BK130.out 3; have hfz31_4 := blk_frozen BK130.out 4) | ((with_reducible refine gate_callee (f := 103) rfl ?_); refine goesL_ (some 17) rfl rfl Try.func103 (by kernel_rfl) rfl #[.agg #[.int .u8 a0_0, .int .u8 a0_1, .int .u8 a0_2, .int .u8 a0_3, .int .u8 a0_4], .agg #[.int .u8 a1_0, .int .u8 a1_1, .int .u8 a1_2, .int .u8 a1_3, .int .u8 a1_4]] rfl (by (try simp only [List.map_toArray, List.map_cons, List.map_nil]); first | done | rfl | (simp only [List.length_drop, List.length_take]; rfl)) ?_; (with_reducible refine (five_both.calls a0_0 a0_1 a0_2 a0_3 a0_4 a1_0 a1_1 a1_2 a1_3 a1_4 t132 _ A3.out).mono ?_); rintro e w32 ⟨rfl, hb⟩; refine ⟨_, rfl, ?_⟩; have n0_ := Aside0.mk (blk_below (g := gb129) (o := .cells #[.int .u8 a0_0, .int .u8 a0_1, .int .u8 a0_2, .int .u8 a0_3, .int .u8 a0_4] 57 (0, 0)) (by (with_reducible repeat (first | refine blk_drewN ?_ _ | refine blk_drew ?_ | refine blk_alloc ?_ _)); exact BK129.out) hb); have n1_ := Aside0.mk (blk_below (g := gb130) (o := .cells #[.int .u8 a1_0, .int .u8 a1_1, .int .u8 a1_2, .int .u8 a1_3, .int .u8 a1_4] 57 (0, 0)) (by (with_reducible repeat (first | refine blk_drewN ?_ _ | refine blk_drew ?_ | refine blk_alloc ?_ _)); exact BK130.out) hb); have n2_ := Aside0.mk (blk_below (g := gb131) (o := .cells #[.int .u8 0, .int .u8 0, .int .u8 0, .int .u8 0, .int .u8 0] 57 (0, 0)) (by (with_reducible repeat (first | refine blk_drewN ?_ _ | refine blk_drew ?_ | refine blk_alloc ?_ _)); exact BK131.out) hb); have n3_ := Aside0.mk (below_step (by repeat (first | (with_reducible first | exact HB.out | apply below_alloc | apply pw_below_drewN | apply below_drew1 | refine below_set ?_ GE129.out | refine below_set ?_ GE130.out | refine below_set ?_ GE131.out) | exact HB.out)) hb); clear BK129; clear BK130; clear BK131; clear HB; have BK129 := n0_; have BK130 := n1_; have BK131 := n2_; have HB := n3_; clear n0_ n1_ n2_ n3_; (try clear hb); (try clear hb2); (try clear hk); (try clear hi); have hcz33_0 : w32.cell? ⟨gb129, 0, none⟩ = some (.int .u8 a0_0) := (blk_cell BK129.out 0).trans rfl; have hcz33_1 : w32.cell? ⟨gb129, 1, none⟩ = some (.int .u8 a0_1) := (blk_cell BK129.out 1).trans rfl; have hcz33_2 : w32.cell? ⟨gb129, 2, none⟩ = some (.int .u8 a0_2) := (blk_cell BK129.out 2).trans rfl; have hcz33_3 : w32.cell? ⟨gb129, 3, none⟩ = some (.int .u8 a0_3) := (blk_cell BK129.out 3).trans rfl; have hcz33_4 : w32.cell? ⟨gb129, 4, none⟩ = some (.int .u8 a0_4) := (blk_cell BK129.out 4).trans rfl; have hfz33_0 := blk_frozen BK129.out 0; have hfz33_1 := blk_frozen BK129.out 1; have hfz33_2 := blk_frozen BK129.out 2; have hfz33_3 := blk_frozen BK129.out 3; have hfz33_4 := blk_frozen BK129.out 4) | ((with_reducible refine gate_callee (f := 94) rfl ?_); refine goesL_ (some 24) rfl rfl Try.func94 (by kernel_rfl) rfl #[.agg #[.int .u8 a0_0, .int .u8 a0_1, .int .u8 a0_2, .int .u8 a0_3, .int .u8 a0_4]] rfl (by (try simp only [List.map_toArray, List.map_cons, List.map_nil]); first | done | rfl | (simp only [List.length_drop, List.length_take]; rfl)) ?_; (with_reducible refine (five_parts.calls a0_0 a0_1 a0_2 a0_3 a0_4 t133 t134 t135 _ A5.out).mono ?_); rintro e w34 ⟨rfl, hb⟩; refine ⟨_, rfl, ?_⟩; have n0_ := Aside0.mk (blk_below (g := gb129) (o := .cells #[.int .u8 a0_0, .int .u8 a0_1, .int .u8 a0_2, .int .u8 a0_3, .int .u8 a0_4] 57 (0, 0)) (by (with_reducible repeat (first | refine blk_drewN ?_ _ | refine blk_drew ?_ | refine blk_alloc ?_ _)); exact BK129.out) hb); have n1_ := Aside0.mk (blk_below (g := gb130) (o := .cells #[.int .u8 a1_0, .int .u8 a1_1, .int .u8 a1_2, .int .u8 a1_3, .int .u8 a1_4] 57 (0, 0)) (by (with_reducible repeat (first | refine blk_drewN ?_ _ | refine blk_drew ?_ | refine blk_alloc ?_ _)); exact BK130.out) hb); have n2_ := Aside0.mk (blk_below (g := gb131) (o := .cells #[.int .u8 0, .int .u8 0, .int .u8 0, .int .u8 0, .int .u8 0] 57 (0, 0)) (by (with_reducible repeat (first | refine blk_drewN ?_ _ | refine blk_drew ?_ | refine blk_alloc ?_ _)); exact BK131.out) hb); have n3_ := Aside0.mk (below_step (by repeat (first | (with_reducible first | exact HB.out | apply below_alloc | apply pw_below_drewN | apply below_drew1 | refine below_set ?_ GE129.out | refine below_set ?_ GE130.out | refine below_set ?_ GE131.out) | exact HB.out)) hb); clear BK129; clear BK130; clear BK131; clear HB; have BK129 := n0_; have BK130 := n1_; have BK131 := n2_; have HB := n3_; clear n0_ n1_ n2_ n3_; (try clear hb); (try clear hb2); (try clear hk); (try clear hi); have hcz35_0 : w34.cell? ⟨gb130, 0, none⟩ = some (.int .u8 a1_0) := (blk_cell BK130.out 0).trans rfl; have hcz35_1 : w34.cell? ⟨gb130, 1, none⟩ = some (.int .u8 a1_1) := (blk_cell BK130.out 1).trans rfl; have hcz35_2 : w34.cell? ⟨gb130, 2, none⟩ = some (.int .u8 a1_2) := (blk_cell BK130.out 2).trans rfl; have hcz35_3 : w34.cell? ⟨gb130, 3, none⟩ = some (.int .u8 a1_3) := (blk_cell BK130.out 3).trans rfl; have hcz35_4 : w34.cell? ⟨gb130, 4, none⟩ = some (.int .u8 a1_4) := (blk_cell BK130.out 4).trans rfl; have hfz35_0 := blk_frozen BK130.out 0; have hfz35_1 := blk_frozen BK130.out 1; have hfz35_2 := blk_frozen BK130.out 2; have hfz35_3 := blk_frozen BK130.out 3; have hfz35_4 := blk_frozen BK130.out 4) | ((with_reducible refine gate_callee (f := 94) rfl ?_); refine goesL_ (some 30) rfl rfl Try.func94 (by kernel_rfl) rfl #[.agg #[.int .u8 a1_0, .int .u8 a1_1, .int .u8 a1_2, .int .u8 a1_3, .int .u8 a1_4]] rfl (by (try simp only [List.map_toArray, List.map_cons, List.map_nil]); first | done | rfl | (simp only [List.length_drop, List.length_take]; rfl)) ?_; (with_reducible refine (five_parts.calls a1_0 a1_1 a1_2 a1_3 a1_4 t136 t137 t138 _ A6.out).mono ?_); rintro e w36 ⟨rfl, hb⟩; refine ⟨_, rfl, ?_⟩; have n0_ := Aside0.mk (blk_below (g := gb129) (o := .cells #[.int .u8 a0_0, .int .u8 a0_1, .int .u8 a0_2, .int .u8 a0_3, .int .u8 a0_4] 57 (0, 0)) (by (with_reducible repeat (first | refine blk_drewN ?_ _ | refine blk_drew ?_ | refine blk_alloc ?_ _)); exact BK129.out) hb); have n1_ := Aside0.mk (blk_below (g := gb130) (o := .cells #[.int .u8 a1_0, .int .u8 a1_1, .int .u8 a1_2, .int .u8 a1_3, .int .u8 a1_4] 57 (0, 0)) (by (with_reducible repeat (first | refine blk_drewN ?_ _ | refine blk_drew ?_ | refine blk_alloc ?_ _)); exact BK130.out) hb); have n2_ := Aside0.mk (blk_below (g := gb131) (o := .cells #[.int .u8 0, .int .u8 0, .int .u8 0, .int .u8 0, .int .u8 0] 57 (0, 0)) (by (with_reducible repeat (first | refine blk_drewN ?_ _ | refine blk_drew ?_ | refine blk_alloc ?_ _)); exact BK131.out) hb); have n3_ := Aside0.mk (below_step (by repeat (first | (with_reducible first | exact HB.out | apply below_alloc | apply pw_below_drewN | apply below_drew1 | refine below_set ?_ GE129.out | refine below_set ?_ GE130.out | refine below_set ?_ GE131.out) | exact HB.out)) hb); clear BK129; clear BK130; clear BK131; clear HB; have BK129 := n0_; have BK130 := n1_; have BK131 := n2_; have HB := n3_; clear n0_ n1_ n2_ n3_; (try clear hb); (try clear hb2); (try clear hk); (try clear hi); have hcz37_0 : w36.cell? ⟨gb129, 0, none⟩ = some (.int .u8 a0_0) := (blk_cell BK129.out 0).trans rfl; have hcz37_1 : w36.cell? ⟨gb129, 1, none⟩ = some (.int .u8 a0_1) := (blk_cell BK129.out 1).trans rfl; have hcz37_2 : w36.cell? ⟨gb129, 2, none⟩ = some (.int .u8 a0_2) := (blk_cell BK129.out 2).trans rfl; have hcz37_3 : w36.cell? ⟨gb129, 3, none⟩ = some (.int .u8 a0_3) := (blk_cell BK129.out 3).trans rfl; have hcz37_4 : w36.cell? ⟨gb129, 4, none⟩ = some (.int .u8 a0_4) := (blk_cell BK129.out 4).trans rfl; have hfz37_0 := blk_frozen BK129.out 0; have hfz37_1 := blk_frozen BK129.out 1; have hfz37_2 := blk_frozen BK129.out 2; have hfz37_3 := blk_frozen BK129.out 3; have hfz37_4 := blk_frozen BK129.out 4; have hcz38_0 : w36.cell? ⟨gb131, 0, none⟩ = some (.int .u8 0) := (blk_cell BK131.out 0).trans rfl; have hcz38_1 : w36.cell? ⟨gb131, 1, none⟩ = some (.int .u8 0) := (blk_cell BK131.out 1).trans rfl; have hcz38_2 : w36.cell? ⟨gb131, 2, none⟩ = some (.int .u8 0) := (blk_cell BK131.out 2).trans rfl; have hcz38_3 : w36.cell? ⟨gb131, 3, none⟩ = some (.int .u8 0) := (blk_cell BK131.out 3).trans rfl; have hcz38_4 : w36.cell? ⟨gb131, 4, none⟩ = some (.int .u8 0) := (blk_cell BK131.out 4).trans rfl; have hfz38_0 := blk_frozen BK131.out 0; have hfz38_1 := blk_frozen BK131.out 1; have hfz38_2 := blk_frozen BK131.out 2; have hfz38_3 := blk_frozen BK131.out 3; have hfz38_4 := blk_frozen BK131.out 4))
        refine bodyPost_ret (results_ct rfl _ _ gb131 57 #[.int .u8 a0_0, .int .u8 a0_1, .int .u8 a0_2, .int .u8 a0_3, .int .u8 a0_4] (0, 0) _ rfl (by (with_reducible repeat (first | refine blk_drewN ?_ _ | refine blk_drew ?_ | refine blk_alloc ?_ _)); refine blk_put (cs := #[.int .u8 a0_0, .int .u8 a0_1, .int .u8 a0_2, .int .u8 a0_3, .int .u8 0]) ?_ 4 _ rfl; (with_reducible repeat (first | refine blk_drewN ?_ _ | refine blk_drew ?_ | refine blk_alloc ?_ _)); refine blk_put (cs := #[.int .u8 a0_0, .int .u8 a0_1, .int .u8 a0_2, .int .u8 0, .int .u8 0]) ?_ 3 _ rfl; (with_reducible repeat (first | refine blk_drewN ?_ _ | refine blk_drew ?_ | refine blk_alloc ?_ _)); refine blk_put (cs := #[.int .u8 a0_0, .int .u8 a0_1, .int .u8 0, .int .u8 0, .int .u8 0]) ?_ 2 _ rfl; (with_reducible repeat (first | refine blk_drewN ?_ _ | refine blk_drew ?_ | refine blk_alloc ?_ _)); refine blk_put (cs := #[.int .u8 a0_0, .int .u8 0, .int .u8 0, .int .u8 0, .int .u8 0]) ?_ 1 _ rfl; (with_reducible repeat (first | refine blk_drewN ?_ _ | refine blk_drew ?_ | refine blk_alloc ?_ _)); refine blk_put (cs := #[.int .u8 0, .int .u8 0, .int .u8 0, .int .u8 0, .int .u8 0]) ?_ 0 _ rfl; (with_reducible repeat (first | refine blk_drewN ?_ _ | refine blk_drew ?_ | refine blk_alloc ?_ _)); exact BK131.out) Try.underlying57 rfl (by kernel_rfl)) rfl ?_
        exact ⟨by first | rfl | (simp [errW_none, errW_some] <;> rfl) | (simp [*, errW_none, errW_some] <;> rfl), by repeat (first | (with_reducible first | exact HB.out | apply below_alloc | apply pw_below_drewN | apply below_drew1 | refine below_set ?_ GE129.out | refine below_set ?_ GE130.out | refine below_set ?_ GE131.out) | exact HB.out)⟩
      · rw [if_neg c23] at H
        have c23b0 : (t137 == 0) = false := beq_eq_false_iff_ne.mpr c23
        have c23b1 : (t137 != 0) = true := bne_iff_ne.mpr c23
        have HC39 := Aside0.mk H
        clear H
        go_enter Try.func59, Try.ntmps59
        go_upto_region 10 with (first | ((with_reducible refine gate_dst (N := 2) rfl ?_); refine box_event ?hg (N := 2) ?hd (cs := #[.int .u8 a0_0, .int .u8 a0_1, .int .u8 a0_2, .int .u8 a0_3, .int .u8 a0_4]) (t := 57) ?hr ?_; (case hd => rfl); (case hg => rfl); (case hr => first | (go_simp; done) | (go_simp; rfl)); intro gb129 hg w40 hbox hb; have n0_ := Aside0.mk (below_step (by repeat (first | (with_reducible first | exact HB.out | apply below_alloc | apply pw_below_drewN | apply below_drew1) | exact HB.out)) hb); have n1_ := Aside0.mk (hbox); have n2_ := Aside0.mk ((by rw [hg]; exact (below_size (by repeat (first | (with_reducible first | exact HB.out | apply below_alloc | apply pw_below_drewN | apply below_drew1) | exact HB.out))) : w.heap.size ≤ gb129)); have n3_ := Aside0.mk ((by rw [hg]; exact (below_size (by repeat (first | (with_reducible first | exact HB.out | apply below_alloc | apply pw_below_drewN | apply below_drew1) | exact HB.out))) : w.heap.size ≤ gb129)); clear HB; have HB := n0_; have BK129 := n1_; have GW129 := n2_; have GE129 := n3_; clear n0_ n1_ n2_ n3_; clear hb hbox hg) | ((with_reducible refine gate_dst (N := 3) rfl ?_); refine box_event ?hg (N := 3) ?hd (cs := #[.int .u8 a1_0, .int .u8 a1_1, .int .u8 a1_2, .int .u8 a1_3, .int .u8 a1_4]) (t := 57) ?hr ?_; (case hd => rfl); (case hg => rfl); (case hr => first | (go_simp; done) | (go_simp; rfl)); intro gb130 hg w41 hbox hb; have n0_ := Aside0.mk (blk_below (g := gb129) (o := .cells #[.int .u8 a0_0, .int .u8 a0_1, .int .u8 a0_2, .int .u8 a0_3, .int .u8 a0_4] 57 (0, 0)) (by (with_reducible repeat (first | refine blk_drewN ?_ _ | refine blk_drew ?_ | refine blk_alloc ?_ _)); exact BK129.out) hb); have n1_ := Aside0.mk (below_step (by repeat (first | (with_reducible first | exact HB.out | apply below_alloc | apply pw_below_drewN | apply below_drew1 | refine below_set ?_ GE129.out) | exact HB.out)) hb); have n2_ := Aside0.mk (hbox); have n3_ := Aside0.mk ((by rw [hg]; exact (below_size (by repeat (first | (with_reducible first | exact HB.out | apply below_alloc | apply pw_below_drewN | apply below_drew1 | refine below_set ?_ GE129.out) | exact HB.out))) : w.heap.size ≤ gb130)); have n4_ := Aside0.mk ((by rw [hg]; exact (below_size (by repeat (first | (with_reducible first | exact HB.out | apply below_alloc | apply pw_below_drewN | apply below_drew1 | refine below_set ?_ GE129.out) | exact HB.out))) : w.heap.size ≤ gb130)); have n5_ := Aside0.mk ((by rw [hg]; exact Nat.ne_of_lt (blk_lt (g := gb129) (o := .cells #[.int .u8 a0_0, .int .u8 a0_1, .int .u8 a0_2, .int .u8 a0_3, .int .u8 a0_4] 57 (0, 0)) (by (with_reducible repeat (first | refine blk_drewN ?_ _ | refine blk_drew ?_ | refine blk_alloc ?_ _)); exact BK129.out)) : gb129 ≠ gb130)); have n6_ := Aside0.mk ((by rw [hg]; exact Nat.ne_of_gt (blk_lt (g := gb129) (o := .cells #[.int .u8 a0_0, .int .u8 a0_1, .int .u8 a0_2, .int .u8 a0_3, .int .u8 a0_4] 57 (0, 0)) (by (with_reducible repeat (first | refine blk_drewN ?_ _ | refine blk_drew ?_ | refine blk_alloc ?_ _)); exact BK129.out)) : gb130 ≠ gb129)); clear BK129; clear HB; have BK129 := n0_; have HB := n1_; have BK130 := n2_; have GW130 := n3_; have GE130 := n4_; have NB129_130 := n5_; have NB130_129 := n6_; clear n0_ n1_ n2_ n3_ n4_ n5_ n6_; clear hb hbox hg) | ((with_reducible refine gate_dst (N := 4) rfl ?_); refine box_event ?hg (N := 4) ?hd (cs := #[.int .u8 0, .int .u8 0, .int .u8 0, .int .u8 0, .int .u8 0]) (t := 57) ?hr ?_; (case hd => rfl); (case hg => rfl); (case hr => first | (go_simp; done) | (go_simp; rfl)); intro gb131 hg w42 hbox hb; have n0_ := Aside0.mk (blk_below (g := gb129) (o := .cells #[.int .u8 a0_0, .int .u8 a0_1, .int .u8 a0_2, .int .u8 a0_3, .int .u8 a0_4] 57 (0, 0)) (by (with_reducible repeat (first | refine blk_drewN ?_ _ | refine blk_drew ?_ | refine blk_alloc ?_ _)); exact BK129.out) hb); have n1_ := Aside0.mk (blk_below (g := gb130) (o := .cells #[.int .u8 a1_0, .int .u8 a1_1, .int .u8 a1_2, .int .u8 a1_3, .int .u8 a1_4] 57 (0, 0)) (by (with_reducible repeat (first | refine blk_drewN ?_ _ | refine blk_drew ?_ | refine blk_alloc ?_ _)); exact BK130.out) hb); have n2_ := Aside0.mk (below_step (by repeat (first | (with_reducible first | exact HB.out | apply below_alloc | apply pw_below_drewN | apply below_drew1 | refine below_set ?_ GE129.out | refine below_set ?_ GE130.out) | exact HB.out)) hb); have n3_ := Aside0.mk (hbox); have n4_ := Aside0.mk ((by rw [hg]; exact (below_size (by repeat (first | (with_reducible first | exact HB.out | apply below_alloc | apply pw_below_drewN | apply below_drew1 | refine below_set ?_ GE129.out | refine below_set ?_ GE130.out) | exact HB.out))) : w.heap.size ≤ gb131)); have n5_ := Aside0.mk ((by rw [hg]; exact (below_size (by repeat (first | (with_reducible first | exact HB.out | apply below_alloc | apply pw_below_drewN | apply below_drew1 | refine below_set ?_ GE129.out | refine below_set ?_ GE130.out) | exact HB.out))) : w.heap.size ≤ gb131)); have n6_ := Aside0.mk ((by rw [hg]; exact Nat.ne_of_lt (blk_lt (g := gb129) (o := .cells #[.int .u8 a0_0, .int .u8 a0_1, .int .u8 a0_2, .int .u8 a0_3, .int .u8 a0_4] 57 (0, 0)) (by (with_reducible repeat (first | refine blk_drewN ?_ _ | refine blk_drew ?_ | refine blk_alloc ?_ _)); exact BK129.out)) : gb129 ≠ gb131)); have n7_ := Aside0.mk ((by rw [hg]; exact Nat.ne_of_gt (blk_lt (g := gb129) (o := .cells #[.int .u8 a0_0, .int .u8 a0_1, .int .u8 a0_2, .int .u8 a0_3, .int .u8 a0_4] 57 (0, 0)) (by (with_reducible repeat (first | refine blk_drewN ?_ _ | refine blk_drew ?_ | refine blk_alloc ?_ _)); exact BK129.out)) : gb131 ≠ gb129)); have n8_ := Aside0.mk ((by rw [hg]; exact Nat.ne_of_lt (blk_lt (g := gb130) (o := .cells #[.int .u8 a1_0, .int .u8 a1_1, .int .u8 a1_2, .int .u8 a1_3, .int .u8 a1_4] 57 (0, 0)) (by (with_reducible repeat (first | refine blk_drewN ?_ _ | refine blk_drew ?_ | refine blk_alloc ?_ _)); exact BK130.out)) : gb130 ≠ gb131)); have n9_ := Aside0.mk ((by rw [hg]; exact Nat.ne_of_gt (blk_lt (g := gb130) (o := .cells #[.int .u8 a1_0, .int .u8 a1_1, .int .u8 a1_2, .int .u8 a1_3, .int .u8 a1_4] 57 (0, 0)) (by (with_reducible repeat (first | refine blk_drewN ?_ _ | refine blk_drew ?_ | refine blk_alloc ?_ _)); exact BK130.out)) : gb131 ≠ gb130)); clear BK129; clear BK130; clear HB; have BK129 := n0_; have BK130 := n1_; have HB := n2_; have BK131 := n3_; have GW131 := n4_; have GE131 := n5_; have NB129_131 := n6_; have NB131_129 := n7_; have NB130_131 := n8_; have NB131_130 := n9_; clear n0_ n1_ n2_ n3_ n4_ n5_ n6_ n7_ n8_ n9_; clear hb hbox hg; have hnb43 := NB129_130.out; have hnc43 := NB130_129.out; have hnb44 := NB129_131.out; have hnc44 := NB131_129.out; have hcz45_0 : w42.cell? ⟨gb129, 0, none⟩ = some (.int .u8 a0_0) := (blk_cell BK129.out 0).trans rfl; have hcz45_1 : w42.cell? ⟨gb129, 1, none⟩ = some (.int .u8 a0_1) := (blk_cell BK129.out 1).trans rfl; have hcz45_2 : w42.cell? ⟨gb129, 2, none⟩ = some (.int .u8 a0_2) := (blk_cell BK129.out 2).trans rfl; have hcz45_3 : w42.cell? ⟨gb129, 3, none⟩ = some (.int .u8 a0_3) := (blk_cell BK129.out 3).trans rfl; have hcz45_4 : w42.cell? ⟨gb129, 4, none⟩ = some (.int .u8 a0_4) := (blk_cell BK129.out 4).trans rfl; have hfz45_0 := blk_frozen BK129.out 0; have hfz45_1 := blk_frozen BK129.out 1; have hfz45_2 := blk_frozen BK129.out 2; have hfz45_3 := blk_frozen BK129.out 3; have hfz45_4 := blk_frozen BK129.out 4; have hnb46 := NB130_131.out; have hnc46 := NB131_130.out; have hcz47_0 : w42.cell? ⟨gb130, 0, none⟩ = some (.int .u8 a1_0) := (blk_cell BK130.out 0).trans rfl; have hcz47_1 : w42.cell? ⟨gb130, 1, none⟩ = some (.int .u8 a1_1) := (blk_cell BK130.out 1).trans rfl; have hcz47_2 : w42.cell? ⟨gb130, 2, none⟩ = some (.int .u8 a1_2) := (blk_cell BK130.out 2).trans rfl; have hcz47_3 : w42.cell? ⟨gb130, 3, none⟩ = some (.int .u8 a1_3) := (blk_cell BK130.out 3).trans rfl; have hcz47_4 : w42.cell? ⟨gb130, 4, none⟩ = some (.int .u8 a1_4) := (blk_cell BK130.out 4).trans rfl; have hfz47_0 := blk_frozen BK130.out 0; have hfz47_1 := blk_frozen BK130.out 1; have hfz47_2 := blk_frozen BK130.out 2; have hfz47_3 := blk_frozen BK130.out 3; have hfz47_4 := blk_frozen BK130.out 4) | ((with_reducible refine gate_callee (f := 103) rfl ?_); refine goesL_ (some 17) rfl rfl Try.func103 (by kernel_rfl) rfl #[.agg #[.int .u8 a0_0, .int .u8 a0_1, .int .u8 a0_2, .int .u8 a0_3, .int .u8 a0_4], .agg #[.int .u8 a1_0, .int .u8 a1_1, .int .u8 a1_2, .int .u8 a1_3, .int .u8 a1_4]] rfl (by (try simp only [List.map_toArray, List.map_cons, List.map_nil]); first | done | rfl | (simp only [List.length_drop, List.length_take]; rfl)) ?_; (with_reducible refine (five_both.calls a0_0 a0_1 a0_2 a0_3 a0_4 a1_0 a1_1 a1_2 a1_3 a1_4 t132 _ A3.out).mono ?_); rintro e w48 ⟨rfl, hb⟩; refine ⟨_, rfl, ?_⟩; have n0_ := Aside0.mk (blk_below (g := gb129) (o := .cells #[.int .u8 a0_0, .int .u8 a0_1, .int .u8 a0_2, .int .u8 a0_3, .int .u8 a0_4] 57 (0, 0)) (by (with_reducible repeat (first | refine blk_drewN ?_ _ | refine blk_drew ?_ | refine blk_alloc ?_ _)); exact BK129.out) hb); have n1_ := Aside0.mk (blk_below (g := gb130) (o := .cells #[.int .u8 a1_0, .int .u8 a1_1, .int .u8 a1_2, .int .u8 a1_3, .int .u8 a1_4] 57 (0, 0)) (by (with_reducible repeat (first | refine blk_drewN ?_ _ | refine blk_drew ?_ | refine blk_alloc ?_ _)); exact BK130.out) hb); have n2_ := Aside0.mk (blk_below (g := gb131) (o := .cells #[.int .u8 0, .int .u8 0, .int .u8 0, .int .u8 0, .int .u8 0] 57 (0, 0)) (by (with_reducible repeat (first | refine blk_drewN ?_ _ | refine blk_drew ?_ | refine blk_alloc ?_ _)); exact BK131.out) hb); have n3_ := Aside0.mk (below_step (by repeat (first | (with_reducible first | exact HB.out | apply below_alloc | apply pw_below_drewN | apply below_drew1 | refine below_set ?_ GE129.out | refine below_set ?_ GE130.out | refine below_set ?_ GE131.out) | exact HB.out)) hb); clear BK129; clear BK130; clear BK131; clear HB; have BK129 := n0_; have BK130 := n1_; have BK131 := n2_; have HB := n3_; clear n0_ n1_ n2_ n3_; (try clear hb); (try clear hb2); (try clear hk); (try clear hi); have hcz49_0 : w48.cell? ⟨gb129, 0, none⟩ = some (.int .u8 a0_0) := (blk_cell BK129.out 0).trans rfl; have hcz49_1 : w48.cell? ⟨gb129, 1, none⟩ = some (.int .u8 a0_1) := (blk_cell BK129.out 1).trans rfl; have hcz49_2 : w48.cell? ⟨gb129, 2, none⟩ = some (.int .u8 a0_2) := (blk_cell BK129.out 2).trans rfl; have hcz49_3 : w48.cell? ⟨gb129, 3, none⟩ = some (.int .u8 a0_3) := (blk_cell BK129.out 3).trans rfl; have hcz49_4 : w48.cell? ⟨gb129, 4, none⟩ = some (.int .u8 a0_4) := (blk_cell BK129.out 4).trans rfl; have hfz49_0 := blk_frozen BK129.out 0; have hfz49_1 := blk_frozen BK129.out 1; have hfz49_2 := blk_frozen BK129.out 2; have hfz49_3 := blk_frozen BK129.out 3; have hfz49_4 := blk_frozen BK129.out 4) | ((with_reducible refine gate_callee (f := 94) rfl ?_); refine goesL_ (some 24) rfl rfl Try.func94 (by kernel_rfl) rfl #[.agg #[.int .u8 a0_0, .int .u8 a0_1, .int .u8 a0_2, .int .u8 a0_3, .int .u8 a0_4]] rfl (by (try simp only [List.map_toArray, List.map_cons, List.map_nil]); first | done | rfl | (simp only [List.length_drop, List.length_take]; rfl)) ?_; (with_reducible refine (five_parts.calls a0_0 a0_1 a0_2 a0_3 a0_4 t133 t134 t135 _ A5.out).mono ?_); rintro e w50 ⟨rfl, hb⟩; refine ⟨_, rfl, ?_⟩; have n0_ := Aside0.mk (blk_below (g := gb129) (o := .cells #[.int .u8 a0_0, .int .u8 a0_1, .int .u8 a0_2, .int .u8 a0_3, .int .u8 a0_4] 57 (0, 0)) (by (with_reducible repeat (first | refine blk_drewN ?_ _ | refine blk_drew ?_ | refine blk_alloc ?_ _)); exact BK129.out) hb); have n1_ := Aside0.mk (blk_below (g := gb130) (o := .cells #[.int .u8 a1_0, .int .u8 a1_1, .int .u8 a1_2, .int .u8 a1_3, .int .u8 a1_4] 57 (0, 0)) (by (with_reducible repeat (first | refine blk_drewN ?_ _ | refine blk_drew ?_ | refine blk_alloc ?_ _)); exact BK130.out) hb); have n2_ := Aside0.mk (blk_below (g := gb131) (o := .cells #[.int .u8 0, .int .u8 0, .int .u8 0, .int .u8 0, .int .u8 0] 57 (0, 0)) (by (with_reducible repeat (first | refine blk_drewN ?_ _ | refine blk_drew ?_ | refine blk_alloc ?_ _)); exact BK131.out) hb); have n3_ := Aside0.mk (below_step (by repeat (first | (with_reducible first | exact HB.out | apply below_alloc | apply pw_below_drewN | apply below_drew1 | refine below_set ?_ GE129.out | refine below_set ?_ GE130.out | refine below_set ?_ GE131.out) | exact HB.out)) hb); clear BK129; clear BK130; clear BK131; clear HB; have BK129 := n0_; have BK130 := n1_; have BK131 := n2_; have HB := n3_; clear n0_ n1_ n2_ n3_; (try clear hb); (try clear hb2); (try clear hk); (try clear hi); have hcz51_0 : w50.cell? ⟨gb130, 0, none⟩ = some (.int .u8 a1_0) := (blk_cell BK130.out 0).trans rfl; have hcz51_1 : w50.cell? ⟨gb130, 1, none⟩ = some (.int .u8 a1_1) := (blk_cell BK130.out 1).trans rfl; have hcz51_2 : w50.cell? ⟨gb130, 2, none⟩ = some (.int .u8 a1_2) := (blk_cell BK130.out 2).trans rfl; have hcz51_3 : w50.cell? ⟨gb130, 3, none⟩ = some (.int .u8 a1_3) := (blk_cell BK130.out 3).trans rfl; have hcz51_4 : w50.cell? ⟨gb130, 4, none⟩ = some (.int .u8 a1_4) := (blk_cell BK130.out 4).trans rfl; have hfz51_0 := blk_frozen BK130.out 0; have hfz51_1 := blk_frozen BK130.out 1; have hfz51_2 := blk_frozen BK130.out 2; have hfz51_3 := blk_frozen BK130.out 3; have hfz51_4 := blk_frozen BK130.out 4) | ((with_reducible refine gate_callee (f := 94) rfl ?_); refine goesL_ (some 30) rfl rfl Try.func94 (by kernel_rfl) rfl #[.agg #[.int .u8 a1_0, .int .u8 a1_1, .int .u8 a1_2, .int .u8 a1_3, .int .u8 a1_4]] rfl (by (try simp only [List.map_toArray, List.map_cons, List.map_nil]); first | done | rfl | (simp only [List.length_drop, List.length_take]; rfl)) ?_; (with_reducible refine (five_parts.calls a1_0 a1_1 a1_2 a1_3 a1_4 t136 t137 t138 _ A6.out).mono ?_); rintro e w52 ⟨rfl, hb⟩; refine ⟨_, rfl, ?_⟩; have n0_ := Aside0.mk (blk_below (g := gb129) (o := .cells #[.int .u8 a0_0, .int .u8 a0_1, .int .u8 a0_2, .int .u8 a0_3, .int .u8 a0_4] 57 (0, 0)) (by (with_reducible repeat (first | refine blk_drewN ?_ _ | refine blk_drew ?_ | refine blk_alloc ?_ _)); exact BK129.out) hb); have n1_ := Aside0.mk (blk_below (g := gb130) (o := .cells #[.int .u8 a1_0, .int .u8 a1_1, .int .u8 a1_2, .int .u8 a1_3, .int .u8 a1_4] 57 (0, 0)) (by (with_reducible repeat (first | refine blk_drewN ?_ _ | refine blk_drew ?_ | refine blk_alloc ?_ _)); exact BK130.out) hb); have n2_ := Aside0.mk (blk_below (g := gb131) (o := .cells #[.int .u8 0, .int .u8 0, .int .u8 0, .int .u8 0, .int .u8 0] 57 (0, 0)) (by (with_reducible repeat (first | refine blk_drewN ?_ _ | refine blk_drew ?_ | refine blk_alloc ?_ _)); exact BK131.out) hb); have n3_ := Aside0.mk (below_step (by repeat (first | (with_reducible first | exact HB.out | apply below_alloc | apply pw_below_drewN | apply below_drew1 | refine below_set ?_ GE129.out | refine below_set ?_ GE130.out | refine below_set ?_ GE131.out) | exact HB.out)) hb); clear BK129; clear BK130; clear BK131; clear HB; have BK129 := n0_; have BK130 := n1_; have BK131 := n2_; have HB := n3_; clear n0_ n1_ n2_ n3_; (try clear hb); (try clear hb2); (try clear hk); (try clear hi)))
        (try simp only [Act.put, List.setIfInBounds_toArray, List.set_cons_zero, List.set_cons_succ])
        go_cut [52] (fun v52 wc => ∃ (kq : Nat) (x52_38 : Bool), v52 = .bool x52_38 ∧ Aside0 (five_Add.j0 kq t133 t134 t135 t136 t137 t138 x52_38 = some (r1, r2, r3, r4, r5, r6)) ∧ Aside0 (kq ≤ k) ∧ Aside0 (wc.heap[gb129]? = some (.cells #[.int .u8 a0_0, .int .u8 a0_1, .int .u8 a0_2, .int .u8 a0_3, .int .u8 a0_4] 57 (0, 0))) ∧ Aside0 (wc.heap[gb130]? = some (.cells #[.int .u8 a1_0, .int .u8 a1_1, .int .u8 a1_2, .int .u8 a1_3, .int .u8 a1_4] 57 (0, 0))) ∧ Aside0 (wc.heap[gb131]? = some (.cells #[.int .u8 0, .int .u8 0, .int .u8 0, .int .u8 0, .int .u8 0] 57 (0, 0))) ∧ Aside0 (Below w.heap.size w wc))
        case first =>
          have H := HC39.out
          clear HC39
          by_cases c53 : t135 < t138
          · rw [if_pos c53] at H
            have c53b0 : decide (t135 < t138) = true := decide_eq_true c53
            clear c53
            (first | rw [c53b0] | (simp only [i64_w, i32_w]; rw [c53b0]) | skip)
            have H' := Aside0.mk H
            clear H
            go_wp2
            go_meet
            case rel => exact ⟨_, (true), (by first | rfl | (simp; done) | (simp [*]; done)), H', ⟨by first | omega | exact Nat.le_refl _⟩, ⟨by (with_reducible repeat (first | refine blk_drewN ?_ _ | refine blk_drew ?_ | refine blk_alloc ?_ _)); exact BK129.out⟩, ⟨by (with_reducible repeat (first | refine blk_drewN ?_ _ | refine blk_drew ?_ | refine blk_alloc ?_ _)); exact BK130.out⟩, ⟨by (with_reducible repeat (first | refine blk_drewN ?_ _ | refine blk_drew ?_ | refine blk_alloc ?_ _)); exact BK131.out⟩, ⟨by repeat (first | (with_reducible first | exact HB.out | apply below_alloc | apply pw_below_drewN | apply below_drew1 | refine below_set ?_ GE129.out | refine below_set ?_ GE130.out | refine below_set ?_ GE131.out) | exact HB.out)⟩⟩
          · rw [if_neg c53] at H
            have c53b0 : decide (t135 < t138) = false := decide_eq_false c53
            clear c53
            (first | rw [c53b0] | (simp only [i64_w, i32_w]; rw [c53b0]) | skip)
            by_cases c54 : t135 = t138
            · rw [if_pos c54] at H
              have c54b0 : (t135 == t138) = true := beq_iff_eq.mpr c54
              have c54b1 : (t135 != t138) = false := bne_eq_false_iff_eq.mpr c54
              clear c54
              have H' := Aside0.mk H
              clear H
              go_wp2
              go_meet
              case rel => exact ⟨_, (decide (t134 < t137)), (by first | rfl | (simp; done) | (simp [*]; done)), H', ⟨by first | omega | exact Nat.le_refl _⟩, ⟨by (with_reducible repeat (first | refine blk_drewN ?_ _ | refine blk_drew ?_ | refine blk_alloc ?_ _)); exact BK129.out⟩, ⟨by (with_reducible repeat (first | refine blk_drewN ?_ _ | refine blk_drew ?_ | refine blk_alloc ?_ _)); exact BK130.out⟩, ⟨by (with_reducible repeat (first | refine blk_drewN ?_ _ | refine blk_drew ?_ | refine blk_alloc ?_ _)); exact BK131.out⟩, ⟨by repeat (first | (with_reducible first | exact HB.out | apply below_alloc | apply pw_below_drewN | apply below_drew1 | refine below_set ?_ GE129.out | refine below_set ?_ GE130.out | refine below_set ?_ GE131.out) | exact HB.out)⟩⟩
            · rw [if_neg c54] at H
              have c54b0 : (t135 == t138) = false := beq_eq_false_iff_ne.mpr c54
              have c54b1 : (t135 != t138) = true := bne_iff_ne.mpr c54
              have H' := Aside0.mk H
              clear H
              go_wp2
              go_meet
              case rel => exact ⟨_, (false), (by first | rfl | (simp; done) | (simp [*]; done)), H', ⟨by first | omega | exact Nat.le_refl _⟩, ⟨by (with_reducible repeat (first | refine blk_drewN ?_ _ | refine blk_drew ?_ | refine blk_alloc ?_ _)); exact BK129.out⟩, ⟨by (with_reducible repeat (first | refine blk_drewN ?_ _ | refine blk_drew ?_ | refine blk_alloc ?_ _)); exact BK130.out⟩, ⟨by (with_reducible repeat (first | refine blk_drewN ?_ _ | refine blk_drew ?_ | refine blk_alloc ?_ _)); exact BK131.out⟩, ⟨by repeat (first | (with_reducible first | exact HB.out | apply below_alloc | apply pw_below_drewN | apply below_drew1 | refine below_set ?_ GE129.out | refine below_set ?_ GE130.out | refine below_set ?_ GE131.out) | exact HB.out)⟩⟩
        case rest =>
          clear HC39
          try clear c1
          try clear c2
          try clear p2
          try clear c3
          try clear c4
          try clear c4b0
          try clear c4b1
          try clear c5
          try clear c7
          try clear c7b0
          try clear c7b1
          try clear c9
          try clear c10
          try clear c11
          try clear c12
          try clear c14
          try clear c23
          try clear c23b0
          try clear c23b1
          try clear c27
          try clear c28
          try clear c30
          try clear c43
          try clear c44
          try clear c46
          try clear c53
          try clear c53b0
          try clear c54
          try clear c54b0
          try clear c54b1
          try clear hcz13_0
          try clear hcz13_1
          try clear hcz13_2
          try clear hcz13_3
          try clear hcz13_4
          try clear hcz15_0
          try clear hcz15_1
          try clear hcz15_2
          try clear hcz15_3
          try clear hcz15_4
          try clear hcz17_0
          try clear hcz17_1
          try clear hcz17_2
          try clear hcz17_3
          try clear hcz17_4
          try clear hcz19_0
          try clear hcz19_1
          try clear hcz19_2
          try clear hcz19_3
          try clear hcz19_4
          try clear hcz21_0
          try clear hcz21_1
          try clear hcz21_2
          try clear hcz21_3
          try clear hcz21_4
          try clear hcz22_0
          try clear hcz22_1
          try clear hcz22_2
          try clear hcz22_3
          try clear hcz22_4
          try clear hcz29_0
          try clear hcz29_1
          try clear hcz29_2
          try clear hcz29_3
          try clear hcz29_4
          try clear hcz31_0
          try clear hcz31_1
          try clear hcz31_2
          try clear hcz31_3
          try clear hcz31_4
          try clear hcz33_0
          try clear hcz33_1
          try clear hcz33_2
          try clear hcz33_3
          try clear hcz33_4
          try clear hcz35_0
          try clear hcz35_1
          try clear hcz35_2
          try clear hcz35_3
          try clear hcz35_4
          try clear hcz37_0
          try clear hcz37_1
          try clear hcz37_2
          try clear hcz37_3
          try clear hcz37_4
          try clear hcz38_0
          try clear hcz38_1
          try clear hcz38_2
          try clear hcz38_3
          try clear hcz38_4
          try clear hcz45_0
          try clear hcz45_1
          try clear hcz45_2
          try clear hcz45_3
          try clear hcz45_4
          try clear hcz47_0
          try clear hcz47_1
          try clear hcz47_2
          try clear hcz47_3
          try clear hcz47_4
          try clear hcz49_0
          try clear hcz49_1
          try clear hcz49_2
          try clear hcz49_3
          try clear hcz49_4
          try clear hcz51_0
          try clear hcz51_1
          try clear hcz51_2
          try clear hcz51_3
          try clear hcz51_4
          try clear hfz13_0
          try clear hfz13_1
          try clear hfz13_2
          try clear hfz13_3
          try clear hfz13_4
          try clear hfz15_0
          try clear hfz15_1
          try clear hfz15_2
          try clear hfz15_3
          try clear hfz15_4
          try clear hfz17_0
          try clear hfz17_1
          try clear hfz17_2
          try clear hfz17_3
          try clear hfz17_4
          try clear hfz19_0
          try clear hfz19_1
          try clear hfz19_2
          try clear hfz19_3
          try clear hfz19_4
          try clear hfz21_0
          try clear hfz21_1
          try clear hfz21_2
          try clear hfz21_3
          try clear hfz21_4
          try clear hfz22_0
          try clear hfz22_1
          try clear hfz22_2
          try clear hfz22_3
          try clear hfz22_4
          try clear hfz29_0
          try clear hfz29_1
          try clear hfz29_2
          try clear hfz29_3
          try clear hfz29_4
          try clear hfz31_0
          try clear hfz31_1
          try clear hfz31_2
          try clear hfz31_3
          try clear hfz31_4
          try clear hfz33_0
          try clear hfz33_1
          try clear hfz33_2
          try clear hfz33_3
          try clear hfz33_4
          try clear hfz35_0
          try clear hfz35_1
          try clear hfz35_2
          try clear hfz35_3
          try clear hfz35_4
          try clear hfz37_0
          try clear hfz37_1
          try clear hfz37_2
          try clear hfz37_3
          try clear hfz37_4
          try clear hfz38_0
          try clear hfz38_1
          try clear hfz38_2
          try clear hfz38_3
          try clear hfz38_4
          try clear hfz45_0
          try clear hfz45_1
          try clear hfz45_2
          try clear hfz45_3
          try clear hfz45_4
          try clear hfz47_0
          try clear hfz47_1
          try clear hfz47_2
          try clear hfz47_3
          try clear hfz47_4
          try clear hfz49_0
          try clear hfz49_1
          try clear hfz49_2
          try clear hfz49_3
          try clear hfz49_4
          try clear hfz51_0
          try clear hfz51_1
          try clear hfz51_2
          try clear hfz51_3
          try clear hfz51_4
          obtain ⟨kq, x52_38, rfl, HA, HJ38, BK129, BK130, BK131, HB⟩ := hcut
          cases kq with
          | zero => exact absurd HA.out (by simp [five_Add.j0])
          | succ kj38 =>
            have H := HA.out
            clear HA
            simp only [five_Add.j0] at H
            have HC55 := Aside0.mk H
            clear H
            go_upto_if 52 with (fail)
            go_cut [7, 8, 9, 10, 11, 12] (fun v7 v8 v9 v10 v11 v12 wc => ∃ (kq : Nat) (x7_54 : Bool) (x8_54 : Int) (x9_54 : Int) (x10_54 : Bool) (x11_54 : Int) (x12_54 : Int), v7 = .bool x7_54 ∧ v8 = .int .u64 x8_54 ∧ v9 = .int .i64 x9_54 ∧ v10 = .bool x10_54 ∧ v11 = .int .u64 x11_54 ∧ v12 = .int .i64 x12_54 ∧ Aside0 (five_Add.j1 kq x7_54 x8_54 x9_54 x10_54 x11_54 x12_54 = some (r1, r2, r3, r4, r5, r6)) ∧ Aside0 (kq ≤ kj38) ∧ Aside0 (wc.heap[gb129]? = some (.cells #[.int .u8 a0_0, .int .u8 a0_1, .int .u8 a0_2, .int .u8 a0_3, .int .u8 a0_4] 57 (0, 0))) ∧ Aside0 (wc.heap[gb130]? = some (.cells #[.int .u8 a1_0, .int .u8 a1_1, .int .u8 a1_2, .int .u8 a1_3, .int .u8 a1_4] 57 (0, 0))) ∧ Aside0 (wc.heap[gb131]? = some (.cells #[.int .u8 0, .int .u8 0, .int .u8 0, .int .u8 0, .int .u8 0] 57 (0, 0))) ∧ Aside0 (Below w.heap.size w wc))
            case first =>
              have H := HC55.out
              clear HC55
              by_cases c56 : x52_38 = true
              · subst c56
                have H1 : (five_Add.j1 kj38 t136 t137 t138 t133 t134 t135) = some (r1, r2, r3, r4, r5, r6) := by rw [if_pos rfl] at H; exact H
                clear H
                have H := H1
                clear H1
                have H' := Aside0.mk H
                clear H
                go_wp2
                go_meet
                case rel => exact ⟨_, (t136), (t137), (t138), (t133), (t134), (t135), (by first | rfl | (simp; done) | (simp [*]; done)), (by first | rfl | (simp; done) | (simp [*]; done)), (by first | rfl | (simp; done) | (simp [*]; done)), (by first | rfl | (simp; done) | (simp [*]; done)), (by first | rfl | (simp; done) | (simp [*]; done)), (by first | rfl | (simp; done) | (simp [*]; done)), H', ⟨by have := HJ38.out; first | omega | exact Nat.le_refl _⟩, ⟨by (with_reducible repeat (first | refine blk_drewN ?_ _ | refine blk_drew ?_ | refine blk_alloc ?_ _)); exact BK129.out⟩, ⟨by (with_reducible repeat (first | refine blk_drewN ?_ _ | refine blk_drew ?_ | refine blk_alloc ?_ _)); exact BK130.out⟩, ⟨by (with_reducible repeat (first | refine blk_drewN ?_ _ | refine blk_drew ?_ | refine blk_alloc ?_ _)); exact BK131.out⟩, ⟨by repeat (first | (with_reducible first | exact HB.out | apply below_alloc | apply pw_below_drewN | apply below_drew1 | refine below_set ?_ GE129.out | refine below_set ?_ GE130.out | refine below_set ?_ GE131.out) | exact HB.out)⟩⟩
              · replace c56 := Bool.eq_false_iff.mpr c56
                subst c56
                have H1 : (five_Add.j1 kj38 t133 t134 t135 t136 t137 t138) = some (r1, r2, r3, r4, r5, r6) := by rw [if_neg (show ¬ (false = true) by decide)] at H; exact H
                clear H
                have H := H1
                clear H1
                have H' := Aside0.mk H
                clear H
                go_wp2
                go_meet
                case rel => exact ⟨_, (t133), (t134), (t135), (t136), (t137), (t138), (by first | rfl | (simp; done) | (simp [*]; done)), (by first | rfl | (simp; done) | (simp [*]; done)), (by first | rfl | (simp; done) | (simp [*]; done)), (by first | rfl | (simp; done) | (simp [*]; done)), (by first | rfl | (simp; done) | (simp [*]; done)), (by first | rfl | (simp; done) | (simp [*]; done)), H', ⟨by have := HJ38.out; first | omega | exact Nat.le_refl _⟩, ⟨by (with_reducible repeat (first | refine blk_drewN ?_ _ | refine blk_drew ?_ | refine blk_alloc ?_ _)); exact BK129.out⟩, ⟨by (with_reducible repeat (first | refine blk_drewN ?_ _ | refine blk_drew ?_ | refine blk_alloc ?_ _)); exact BK130.out⟩, ⟨by (with_reducible repeat (first | refine blk_drewN ?_ _ | refine blk_drew ?_ | refine blk_alloc ?_ _)); exact BK131.out⟩, ⟨by repeat (first | (with_reducible first | exact HB.out | apply below_alloc | apply pw_below_drewN | apply below_drew1 | refine below_set ?_ GE129.out | refine below_set ?_ GE130.out | refine below_set ?_ GE131.out) | exact HB.out)⟩⟩
            case rest =>
              clear HC55
              try clear c1
              try clear c2
              try clear p2
              try clear c3
              try clear c4
              try clear c4b0
              try clear c4b1
              try clear c5
              try clear c7
              try clear c7b0
              try clear c7b1
              try clear c9
              try clear c10
              try clear c11
              try clear c12
              try clear c14
              try clear c23
              try clear c23b0
              try clear c23b1
              try clear c27
              try clear c28
              try clear c30
              try clear c43
              try clear c44
              try clear c46
              try clear c53
              try clear c53b0
              try clear c54
              try clear c54b0
              try clear c54b1
              try clear c56
              try clear hcz13_0
              try clear hcz13_1
              try clear hcz13_2
              try clear hcz13_3
              try clear hcz13_4
              try clear hcz15_0
              try clear hcz15_1
              try clear hcz15_2
              try clear hcz15_3
              try clear hcz15_4
              try clear hcz17_0
              try clear hcz17_1
              try clear hcz17_2
              try clear hcz17_3
              try clear hcz17_4
              try clear hcz19_0
              try clear hcz19_1
              try clear hcz19_2
              try clear hcz19_3
              try clear hcz19_4
              try clear hcz21_0
              try clear hcz21_1
              try clear hcz21_2
              try clear hcz21_3
              try clear hcz21_4
              try clear hcz22_0
              try clear hcz22_1
              try clear hcz22_2
              try clear hcz22_3
              try clear hcz22_4
              try clear hcz29_0
              try clear hcz29_1
              try clear hcz29_2
              try clear hcz29_3
              try clear hcz29_4
              try clear hcz31_0
              try clear hcz31_1
              try clear hcz31_2
              try clear hcz31_3
              try clear hcz31_4
              try clear hcz33_0
              try clear hcz33_1
              try clear hcz33_2
              try clear hcz33_3
              try clear hcz33_4
              try clear hcz35_0
              try clear hcz35_1
              try clear hcz35_2
              try clear hcz35_3
              try clear hcz35_4
              try clear hcz37_0
              try clear hcz37_1
              try clear hcz37_2
              try clear hcz37_3
              try clear hcz37_4
              try clear hcz38_0
              try clear hcz38_1
              try clear hcz38_2
              try clear hcz38_3
              try clear hcz38_4
              try clear hcz45_0
              try clear hcz45_1
              try clear hcz45_2
              try clear hcz45_3
              try clear hcz45_4
              try clear hcz47_0
              try clear hcz47_1
              try clear hcz47_2
              try clear hcz47_3
              try clear hcz47_4
              try clear hcz49_0
              try clear hcz49_1
              try clear hcz49_2
              try clear hcz49_3
              try clear hcz49_4
              try clear hcz51_0
              try clear hcz51_1
              try clear hcz51_2
              try clear hcz51_3
              try clear hcz51_4
              try clear hfz13_0
              try clear hfz13_1
              try clear hfz13_2
              try clear hfz13_3
              try clear hfz13_4
              try clear hfz15_0
              try clear hfz15_1
              try clear hfz15_2
              try clear hfz15_3
              try clear hfz15_4
              try clear hfz17_0
              try clear hfz17_1
              try clear hfz17_2
              try clear hfz17_3
              try clear hfz17_4
              try clear hfz19_0
              try clear hfz19_1
              try clear hfz19_2
              try clear hfz19_3
              try clear hfz19_4
              try clear hfz21_0
              try clear hfz21_1
              try clear hfz21_2
              try clear hfz21_3
              try clear hfz21_4
              try clear hfz22_0
              try clear hfz22_1
              try clear hfz22_2
              try clear hfz22_3
              try clear hfz22_4
              try clear hfz29_0
              try clear hfz29_1
              try clear hfz29_2
              try clear hfz29_3
              try clear hfz29_4
              try clear hfz31_0
              try clear hfz31_1
              try clear hfz31_2
              try clear hfz31_3
              try clear hfz31_4
              try clear hfz33_0
              try clear hfz33_1
              try clear hfz33_2
              try clear hfz33_3
              try clear hfz33_4
              try clear hfz35_0
              try clear hfz35_1
              try clear hfz35_2
              try clear hfz35_3
              try clear hfz35_4
              try clear hfz37_0
              try clear hfz37_1
              try clear hfz37_2
              try clear hfz37_3
              try clear hfz37_4
              try clear hfz38_0
              try clear hfz38_1
              try clear hfz38_2
              try clear hfz38_3
              try clear hfz38_4
              try clear hfz45_0
              try clear hfz45_1
              try clear hfz45_2
              try clear hfz45_3
              try clear hfz45_4
              try clear hfz47_0
              try clear hfz47_1
              try clear hfz47_2
              try clear hfz47_3
              try clear hfz47_4
              try clear hfz49_0
              try clear hfz49_1
              try clear hfz49_2
              try clear hfz49_3
              try clear hfz49_4
              try clear hfz51_0
              try clear hfz51_1
              try clear hfz51_2
              try clear hfz51_3
              try clear hfz51_4
              try clear p2
              obtain ⟨kq, x7_54, x8_54, x9_54, x10_54, x11_54, x12_54, rfl, rfl, rfl, rfl, rfl, rfl, HA, HJ54, BK129, BK130, BK131, HB⟩ := hcut
              cases kq with
              | zero => exact absurd HA.out (by simp [five_Add.j1])
              | succ kj54 =>
                have H := HA.out
                clear HA
                simp only [five_Add.j1] at H
                have HC57 := Aside0.mk H
                clear H
                go_upto_if 65 with (fail)
                go_cut [11, 14] (fun v11 v14 wc => ∃ (kq : Nat) (x11_56 : Int) (x14_56 : Int), v11 = .int .u64 x11_56 ∧ v14 = .int .u64 x14_56 ∧ Aside0 (five_Add.j2 kq x7_54 (IntKind.u64.wrap (x8_54 * 16777216)) x9_54 x10_54 x11_56 x14_56 = some (r1, r2, r3, r4, r5, r6)) ∧ Aside0 (kq ≤ kj54) ∧ Aside0 (wc.heap[gb129]? = some (.cells #[.int .u8 a0_0, .int .u8 a0_1, .int .u8 a0_2, .int .u8 a0_3, .int .u8 a0_4] 57 (0, 0))) ∧ Aside0 (wc.heap[gb130]? = some (.cells #[.int .u8 a1_0, .int .u8 a1_1, .int .u8 a1_2, .int .u8 a1_3, .int .u8 a1_4] 57 (0, 0))) ∧ Aside0 (wc.heap[gb131]? = some (.cells #[.int .u8 0, .int .u8 0, .int .u8 0, .int .u8 0, .int .u8 0] 57 (0, 0))) ∧ Aside0 (Below w.heap.size w wc))
                case first =>
                  have H := HC57.out
                  clear HC57
                  by_cases c58 : (wrap64 (x9_54 - x12_54)) > 60
                  · rw [if_pos c58] at H
                    have c58b0 : decide (60 < (wrap64 (x9_54 - x12_54))) = true := decide_eq_true c58
                    clear c58
                    (first | rw [c58b0] | (simp only [i64_w, i32_w]; rw [c58b0]) | skip)
                    have H' := Aside0.mk H
                    clear H
                    go_wp2
                    go_meet
                    case rel => exact ⟨_, (0), (1), (by first | rfl | (simp; done) | (simp [*]; done)), (by first | rfl | (simp; done) | (simp [*]; done)), H', ⟨by have := HJ38.out; have := HJ54.out; first | omega | exact Nat.le_refl _⟩, ⟨by (with_reducible repeat (first | refine blk_drewN ?_ _ | refine blk_drew ?_ | refine blk_alloc ?_ _)); exact BK129.out⟩, ⟨by (with_reducible repeat (first | refine blk_drewN ?_ _ | refine blk_drew ?_ | refine blk_alloc ?_ _)); exact BK130.out⟩, ⟨by (with_reducible repeat (first | refine blk_drewN ?_ _ | refine blk_drew ?_ | refine blk_alloc ?_ _)); exact BK131.out⟩, ⟨by repeat (first | (with_reducible first | exact HB.out | apply below_alloc | apply pw_below_drewN | apply below_drew1 | refine below_set ?_ GE129.out | refine below_set ?_ GE130.out | refine below_set ?_ GE131.out) | exact HB.out)⟩⟩
                  · rw [if_neg c58] at H
                    have c58b0 : decide (60 < (wrap64 (x9_54 - x12_54))) = false := decide_eq_false c58
                    clear c58
                    (first | rw [c58b0] | (simp only [i64_w, i32_w]; rw [c58b0]) | skip)
                    obtain ⟨ji59, hji59⟩ : ∃ j_ : Int, (wrap64 (x9_54 - x12_54)) = j_ := ⟨_, rfl⟩
                    replace H : (if 0 ≤ (ji59) then (if (Go.bits .and .u64 (IntKind.u64.wrap (x11_54 * 16777216)) (IntKind.u64.wrap ((shl .u64 1 (ji59)) - 1))) = 0 then (five_Add.j2 kj54 x7_54 (IntKind.u64.wrap (x8_54 * 16777216)) x9_54 x10_54 (shr .u64 (IntKind.u64.wrap (x11_54 * 16777216)) (ji59)) 0) else (five_Add.j2 kj54 x7_54 (IntKind.u64.wrap (x8_54 * 16777216)) x9_54 x10_54 (shr .u64 (IntKind.u64.wrap (x11_54 * 16777216)) (ji59)) 1)) else (none)) = some (r1, r2, r3, r4, r5, r6) := by first | (rw [hji59] at H; exact H) | (simp only [hji59] at H ⊢; exact H)
                    (try rw [hji59] at c58b0)
                    have hji59w : (IntKind.i64.wrap (x9_54 - x12_54)) = ji59 := (i64_w _).trans hji59
                    by_cases c60 : 0 ≤ (ji59)
                    · rw [if_pos c60] at H
                      have c60b0 := eq_true c60
                      have c60b1 : decide (0 ≤ (ji59)) = true := decide_eq_true c60
                      clear c60
                      obtain ⟨ji61, hji61⟩ : ∃ j_ : Int, (shl .u64 1 (ji59)) = j_ := ⟨_, rfl⟩
                      replace H : (if (Go.bits .and .u64 (IntKind.u64.wrap (x11_54 * 16777216)) (IntKind.u64.wrap ((ji61) - 1))) = 0 then (five_Add.j2 kj54 x7_54 (IntKind.u64.wrap (x8_54 * 16777216)) x9_54 x10_54 (shr .u64 (IntKind.u64.wrap (x11_54 * 16777216)) (ji59)) 0) else (five_Add.j2 kj54 x7_54 (IntKind.u64.wrap (x8_54 * 16777216)) x9_54 x10_54 (shr .u64 (IntKind.u64.wrap (x11_54 * 16777216)) (ji59)) 1)) = some (r1, r2, r3, r4, r5, r6) := by first | (rw [hji61] at H; exact H) | (simp only [hji61] at H ⊢; exact H)
                      have hji61_ : (IntKind.u64.wrap (1 * 2 ^ min (ji59).toNat 64)) = ji61 := hji61
                      have hji61z : (ji59) ≤ 64 → (IntKind.u64.wrap (1 * 2 ^ (ji59).toNat)) = ji61 := shl_small hji61
                      have hji61u : (IntKind.u64.wrap (2 ^ min (ji59).toNat 64)) = ji61 := by have h_ := hji61_; rw [Int.one_mul] at h_; exact h_
                      have hji61v : (ji59) ≤ 64 → (IntKind.u64.wrap (2 ^ (ji59).toNat)) = ji61 := fun hle_ => by have h_ := hji61z hle_; rw [Int.one_mul] at h_; exact h_
                      by_cases c62 : (Go.bits .and .u64 (IntKind.u64.wrap (x11_54 * 16777216)) (IntKind.u64.wrap ((ji61) - 1))) = 0
                      · rw [if_pos c62] at H
                        have c62b0 : ((Go.bits .and .u64 (IntKind.u64.wrap (x11_54 * 16777216)) (IntKind.u64.wrap ((ji61) - 1))) == 0) = true := beq_iff_eq.mpr c62
                        have c62b1 : ((Go.bits .and .u64 (IntKind.u64.wrap (x11_54 * 16777216)) (IntKind.u64.wrap ((ji61) - 1))) != 0) = false := bne_eq_false_iff_eq.mpr c62
                        clear c62
                        have c63b0 := eq_true (of_decide_eq_true (by first | (with_reducible assumption) | assumption) : 0 ≤ (ji59))
                        obtain ⟨ji64, hji64⟩ : ∃ j_ : Int, (shr .u64 (IntKind.u64.wrap (x11_54 * 16777216)) (ji59)) = j_ := ⟨_, rfl⟩
                        replace H : (five_Add.j2 kj54 x7_54 (IntKind.u64.wrap (x8_54 * 16777216)) x9_54 x10_54 ji64 0) = some (r1, r2, r3, r4, r5, r6) := by first | (rw [hji64] at H; exact H) | (simp only [hji64] at H ⊢; exact H)
                        have hji64_ : ((IntKind.u64.wrap (x11_54 * 16777216)) / 2 ^ min (ji59).toNat 64) = ji64 := hji64
                        have hji64z : (ji59) ≤ 64 → ((IntKind.u64.wrap (x11_54 * 16777216)) / 2 ^ (ji59).toNat) = ji64 := shr_small hji64
                        have H' := Aside0.mk H
                        clear H
                        go_wp2
                        go_meet
                        case rel => exact ⟨_, (ji64), (0), (by first | rfl | (simp; done) | (simp only [← hji64] <;> (first | rfl | simp)) | (simp [*]; done)), (by first | rfl | (simp; done) | (simp [*]; done)), H', ⟨by have := HJ38.out; have := HJ54.out; first | omega | exact Nat.le_refl _⟩, ⟨by (with_reducible repeat (first | refine blk_drewN ?_ _ | refine blk_drew ?_ | refine blk_alloc ?_ _)); exact BK129.out⟩, ⟨by (with_reducible repeat (first | refine blk_drewN ?_ _ | refine blk_drew ?_ | refine blk_alloc ?_ _)); exact BK130.out⟩, ⟨by (with_reducible repeat (first | refine blk_drewN ?_ _ | refine blk_drew ?_ | refine blk_alloc ?_ _)); exact BK131.out⟩, ⟨by repeat (first | (with_reducible first | exact HB.out | apply below_alloc | apply pw_below_drewN | apply below_drew1 | refine below_set ?_ GE129.out | refine below_set ?_ GE130.out | refine below_set ?_ GE131.out) | exact HB.out)⟩⟩
                      · rw [if_neg c62] at H
                        have c62b0 : ((Go.bits .and .u64 (IntKind.u64.wrap (x11_54 * 16777216)) (IntKind.u64.wrap ((ji61) - 1))) == 0) = false := beq_eq_false_iff_ne.mpr c62
                        have c62b1 : ((Go.bits .and .u64 (IntKind.u64.wrap (x11_54 * 16777216)) (IntKind.u64.wrap ((ji61) - 1))) != 0) = true := bne_iff_ne.mpr c62
                        have c65b0 := eq_true (of_decide_eq_true (by first | (with_reducible assumption) | assumption) : 0 ≤ (ji59))
                        obtain ⟨ji66, hji66⟩ : ∃ j_ : Int, (shr .u64 (IntKind.u64.wrap (x11_54 * 16777216)) (ji59)) = j_ := ⟨_, rfl⟩
                        replace H : (five_Add.j2 kj54 x7_54 (IntKind.u64.wrap (x8_54 * 16777216)) x9_54 x10_54 ji66 1) = some (r1, r2, r3, r4, r5, r6) := by first | (rw [hji66] at H; exact H) | (simp only [hji66] at H ⊢; exact H)
                        have hji66_ : ((IntKind.u64.wrap (x11_54 * 16777216)) / 2 ^ min (ji59).toNat 64) = ji66 := hji66
                        have hji66z : (ji59) ≤ 64 → ((IntKind.u64.wrap (x11_54 * 16777216)) / 2 ^ (ji59).toNat) = ji66 := shr_small hji66
                        have H' := Aside0.mk H
                        clear H
                        go_wp2
                        go_meet
                        case rel => exact ⟨_, (ji66), (1), (by first | rfl | (simp; done) | (simp only [← hji66] <;> (first | rfl | simp)) | (simp [*]; done)), (by first | rfl | (simp; done) | (simp [*]; done)), H', ⟨by have := HJ38.out; have := HJ54.out; first | omega | exact Nat.le_refl _⟩, ⟨by (with_reducible repeat (first | refine blk_drewN ?_ _ | refine blk_drew ?_ | refine blk_alloc ?_ _)); exact BK129.out⟩, ⟨by (with_reducible repeat (first | refine blk_drewN ?_ _ | refine blk_drew ?_ | refine blk_alloc ?_ _)); exact BK130.out⟩, ⟨by (with_reducible repeat (first | refine blk_drewN ?_ _ | refine blk_drew ?_ | refine blk_alloc ?_ _)); exact BK131.out⟩, ⟨by repeat (first | (with_reducible first | exact HB.out | apply below_alloc | apply pw_below_drewN | apply below_drew1 | refine below_set ?_ GE129.out | refine below_set ?_ GE130.out | refine below_set ?_ GE131.out) | exact HB.out)⟩⟩
                    · rw [if_neg c60] at H
                      exact absurd H (by simp)
                case rest =>
                  clear HC57
                  try clear c1
                  try clear c2
                  try clear p2
                  try clear c3
                  try clear c4
                  try clear c4b0
                  try clear c4b1
                  try clear c5
                  try clear c6
                  try clear p6
                  try clear c7
                  try clear c7b0
                  try clear c7b1
                  try clear c9
                  try clear c10
                  try clear c11
                  try clear c12
                  try clear c14
                  try clear c23
                  try clear c23b0
                  try clear c23b1
                  try clear c27
                  try clear c28
                  try clear c30
                  try clear c43
                  try clear c44
                  try clear c46
                  try clear c53
                  try clear c53b0
                  try clear c54
                  try clear c54b0
                  try clear c54b1
                  try clear c56
                  try clear c58
                  try clear c58b0
                  try clear c59
                  try clear c60
                  try clear c60b0
                  try clear c60b1
                  try clear c62
                  try clear c62b0
                  try clear c62b1
                  try clear c63
                  try clear c63b0
                  try clear p64
                  try clear c65
                  try clear c65b0
                  try clear hcz13_0
                  try clear hcz13_1
                  try clear hcz13_2
                  try clear hcz13_3
                  try clear hcz13_4
                  try clear hcz15_0
                  try clear hcz15_1
                  try clear hcz15_2
                  try clear hcz15_3
                  try clear hcz15_4
                  try clear hcz17_0
                  try clear hcz17_1
                  try clear hcz17_2
                  try clear hcz17_3
                  try clear hcz17_4
                  try clear hcz19_0
                  try clear hcz19_1
                  try clear hcz19_2
                  try clear hcz19_3
                  try clear hcz19_4
                  try clear hcz21_0
                  try clear hcz21_1
                  try clear hcz21_2
                  try clear hcz21_3
                  try clear hcz21_4
                  try clear hcz22_0
                  try clear hcz22_1
                  try clear hcz22_2
                  try clear hcz22_3
                  try clear hcz22_4
                  try clear hcz29_0
                  try clear hcz29_1
                  try clear hcz29_2
                  try clear hcz29_3
                  try clear hcz29_4
                  try clear hcz31_0
                  try clear hcz31_1
                  try clear hcz31_2
                  try clear hcz31_3
                  try clear hcz31_4
                  try clear hcz33_0
                  try clear hcz33_1
                  try clear hcz33_2
                  try clear hcz33_3
                  try clear hcz33_4
                  try clear hcz35_0
                  try clear hcz35_1
                  try clear hcz35_2
                  try clear hcz35_3
                  try clear hcz35_4
                  try clear hcz37_0
                  try clear hcz37_1
                  try clear hcz37_2
                  try clear hcz37_3
                  try clear hcz37_4
                  try clear hcz38_0
                  try clear hcz38_1
                  try clear hcz38_2
                  try clear hcz38_3
                  try clear hcz38_4
                  try clear hcz45_0
                  try clear hcz45_1
                  try clear hcz45_2
                  try clear hcz45_3
                  try clear hcz45_4
                  try clear hcz47_0
                  try clear hcz47_1
                  try clear hcz47_2
                  try clear hcz47_3
                  try clear hcz47_4
                  try clear hcz49_0
                  try clear hcz49_1
                  try clear hcz49_2
                  try clear hcz49_3
                  try clear hcz49_4
                  try clear hcz51_0
                  try clear hcz51_1
                  try clear hcz51_2
                  try clear hcz51_3
                  try clear hcz51_4
                  try clear hfz13_0
                  try clear hfz13_1
                  try clear hfz13_2
                  try clear hfz13_3
                  try clear hfz13_4
                  try clear hfz15_0
                  try clear hfz15_1
                  try clear hfz15_2
                  try clear hfz15_3
                  try clear hfz15_4
                  try clear hfz17_0
                  try clear hfz17_1
                  try clear hfz17_2
                  try clear hfz17_3
                  try clear hfz17_4
                  try clear hfz19_0
                  try clear hfz19_1
                  try clear hfz19_2
                  try clear hfz19_3
                  try clear hfz19_4
                  try clear hfz21_0
                  try clear hfz21_1
                  try clear hfz21_2
                  try clear hfz21_3
                  try clear hfz21_4
                  try clear hfz22_0
                  try clear hfz22_1
                  try clear hfz22_2
                  try clear hfz22_3
                  try clear hfz22_4
                  try clear hfz29_0
                  try clear hfz29_1
                  try clear hfz29_2
                  try clear hfz29_3
                  try clear hfz29_4
                  try clear hfz31_0
                  try clear hfz31_1
                  try clear hfz31_2
                  try clear hfz31_3
                  try clear hfz31_4
                  try clear hfz33_0
                  try clear hfz33_1
                  try clear hfz33_2
                  try clear hfz33_3
                  try clear hfz33_4
                  try clear hfz35_0
                  try clear hfz35_1
                  try clear hfz35_2
                  try clear hfz35_3
                  try clear hfz35_4
                  try clear hfz37_0
                  try clear hfz37_1
                  try clear hfz37_2
                  try clear hfz37_3
                  try clear hfz37_4
                  try clear hfz38_0
                  try clear hfz38_1
                  try clear hfz38_2
                  try clear hfz38_3
                  try clear hfz38_4
                  try clear hfz45_0
                  try clear hfz45_1
                  try clear hfz45_2
                  try clear hfz45_3
                  try clear hfz45_4
                  try clear hfz47_0
                  try clear hfz47_1
                  try clear hfz47_2
                  try clear hfz47_3
                  try clear hfz47_4
                  try clear hfz49_0
                  try clear hfz49_1
                  try clear hfz49_2
                  try clear hfz49_3
                  try clear hfz49_4
                  try clear hfz51_0
                  try clear hfz51_1
                  try clear hfz51_2
                  try clear hfz51_3
                  try clear hfz51_4
                  try clear p2
                  obtain ⟨kq, x11_56, x14_56, rfl, rfl, HA, HJ56, BK129, BK130, BK131, HB⟩ := hcut
                  cases kq with
                  | zero => exact absurd HA.out (by simp [five_Add.j2])
                  | succ kj56 =>
                    have H := HA.out
                    clear HA
                    simp only [five_Add.j2] at H
                    by_cases c67 : (x7_54 == x10_54) = true
                    · rw [if_pos c67] at H
                      have c67b0 : (x7_54 == x10_54) = true := c67
                      (try (have c67b1 : decide (x7_54 = x10_54) = true := by simpa using c67))
                      (try (have c67b2 : (x7_54 == x10_54) = true := by simpa using c67))
                      clear c67
                      replace H := Option.bind_eq_some_iff.mp H
                      obtain ⟨⟨t139, t140, t141, t142, t143, t144⟩, A680, H⟩ := H
                      replace H : (some (t139, t140, t141, t142, t143, t144)) = some (r1, r2, r3, r4, r5, r6) := H
                      have A68 := Aside0.mk A680
                      clear A680
                      simp only [Option.some.injEq, Prod.mk.injEq] at H
                      obtain ⟨rfl, rfl, rfl, rfl, rfl, rfl⟩ := H
                      go_wp2_with (first | ((with_reducible refine gate_callee (f := 91) rfl ?_); refine goesL_ (some 89) rfl rfl Try.func91 (by kernel_rfl) rfl #[.bool x7_54, .int .u64 (Go.bits .or .u64 (IntKind.u64.wrap ((IntKind.u64.wrap ((IntKind.u64.wrap (x8_54 * 16777216)) + x11_56)) * 2)) x14_56), .int .i64 (wrap64 (x9_54 - 25)), .bool false] rfl (by (try simp only [List.map_toArray, List.map_cons, List.map_nil]); first | done | rfl | (simp only [List.length_drop, List.length_take]; rfl)) ?_; (with_reducible refine (five_pack.calls kj56 x7_54 (Go.bits .or .u64 (IntKind.u64.wrap ((IntKind.u64.wrap ((IntKind.u64.wrap (x8_54 * 16777216)) + x11_56)) * 2)) x14_56) (wrap64 (x9_54 - 25)) false t139 t140 t141 t142 t143 t144 _ A68.out).mono ?_); rintro e w69 ⟨rfl, hb⟩; refine ⟨_, rfl, ?_⟩; have n0_ := Aside0.mk (blk_below (g := gb129) (o := .cells #[.int .u8 a0_0, .int .u8 a0_1, .int .u8 a0_2, .int .u8 a0_3, .int .u8 a0_4] 57 (0, 0)) (by (with_reducible repeat (first | refine blk_drewN ?_ _ | refine blk_drew ?_ | refine blk_alloc ?_ _)); exact BK129.out) hb); have n1_ := Aside0.mk (blk_below (g := gb130) (o := .cells #[.int .u8 a1_0, .int .u8 a1_1, .int .u8 a1_2, .int .u8 a1_3, .int .u8 a1_4] 57 (0, 0)) (by (with_reducible repeat (first | refine blk_drewN ?_ _ | refine blk_drew ?_ | refine blk_alloc ?_ _)); exact BK130.out) hb); have n2_ := Aside0.mk (blk_below (g := gb131) (o := .cells #[.int .u8 0, .int .u8 0, .int .u8 0, .int .u8 0, .int .u8 0] 57 (0, 0)) (by (with_reducible repeat (first | refine blk_drewN ?_ _ | refine blk_drew ?_ | refine blk_alloc ?_ _)); exact BK131.out) hb); have n3_ := Aside0.mk (below_step (by repeat (first | (with_reducible first | exact HB.out | apply below_alloc | apply pw_below_drewN | apply below_drew1 | refine below_set ?_ GE129.out | refine below_set ?_ GE130.out | refine below_set ?_ GE131.out) | exact HB.out)) hb); clear BK129; clear BK130; clear BK131; clear HB; have BK129 := n0_; have BK130 := n1_; have BK131 := n2_; have HB := n3_; clear n0_ n1_ n2_ n3_; (try clear hb); (try clear hb2); (try clear hk); (try clear hi); have hnb70 := NB131_129.out; have hnc70 := NB129_131.out; have hnb71 := NB131_130.out; have hnc71 := NB130_131.out; have hcz72_0 : w69.cell? ⟨gb131, 0, none⟩ = some (.int .u8 0) := (blk_cell BK131.out 0).trans rfl; have hcz72_1 : w69.cell? ⟨gb131, 1, none⟩ = some (.int .u8 0) := (blk_cell BK131.out 1).trans rfl; have hcz72_2 : w69.cell? ⟨gb131, 2, none⟩ = some (.int .u8 0) := (blk_cell BK131.out 2).trans rfl; have hcz72_3 : w69.cell? ⟨gb131, 3, none⟩ = some (.int .u8 0) := (blk_cell BK131.out 3).trans rfl; have hcz72_4 : w69.cell? ⟨gb131, 4, none⟩ = some (.int .u8 0) := (blk_cell BK131.out 4).trans rfl; have hfz72_0 := blk_frozen BK131.out 0; have hfz72_1 := blk_frozen BK131.out 1; have hfz72_2 := blk_frozen BK131.out 2; have hfz72_3 := blk_frozen BK131.out 3; have hfz72_4 := blk_frozen BK131.out 4))
                      refine bodyPost_ret (results_ct rfl _ _ gb131 57 #[.int .u8 t139, .int .u8 t140, .int .u8 t141, .int .u8 t142, .int .u8 t143] (0, 0) _ rfl (by (with_reducible repeat (first | refine blk_drewN ?_ _ | refine blk_drew ?_ | refine blk_alloc ?_ _)); refine blk_put (cs := #[.int .u8 t139, .int .u8 t140, .int .u8 t141, .int .u8 t142, .int .u8 0]) ?_ 4 _ rfl; (with_reducible repeat (first | refine blk_drewN ?_ _ | refine blk_drew ?_ | refine blk_alloc ?_ _)); refine blk_put (cs := #[.int .u8 t139, .int .u8 t140, .int .u8 t141, .int .u8 0, .int .u8 0]) ?_ 3 _ rfl; (with_reducible repeat (first | refine blk_drewN ?_ _ | refine blk_drew ?_ | refine blk_alloc ?_ _)); refine blk_put (cs := #[.int .u8 t139, .int .u8 t140, .int .u8 0, .int .u8 0, .int .u8 0]) ?_ 2 _ rfl; (with_reducible repeat (first | refine blk_drewN ?_ _ | refine blk_drew ?_ | refine blk_alloc ?_ _)); refine blk_put (cs := #[.int .u8 t139, .int .u8 0, .int .u8 0, .int .u8 0, .int .u8 0]) ?_ 1 _ rfl; (with_reducible repeat (first | refine blk_drewN ?_ _ | refine blk_drew ?_ | refine blk_alloc ?_ _)); refine blk_put (cs := #[.int .u8 0, .int .u8 0, .int .u8 0, .int .u8 0, .int .u8 0]) ?_ 0 _ rfl; (with_reducible repeat (first | refine blk_drewN ?_ _ | refine blk_drew ?_ | refine blk_alloc ?_ _)); exact BK131.out) Try.underlying57 rfl (by kernel_rfl)) rfl ?_
                      exact ⟨by first | rfl | (simp [errW_none, errW_some] <;> rfl) | (simp [*, errW_none, errW_some] <;> rfl), by repeat (first | (with_reducible first | exact HB.out | apply below_alloc | apply pw_below_drewN | apply below_drew1 | refine below_set ?_ GE129.out | refine below_set ?_ GE130.out | refine below_set ?_ GE131.out) | exact HB.out)⟩
                    · rw [if_neg c67] at H
                      have c67b0 : (x7_54 == x10_54) = false := by simpa using c67
                      (try (have c67b1 : decide (x7_54 = x10_54) = false := by simpa using c67))
                      (try (have c67b2 : (x7_54 == x10_54) = false := by simpa using c67))
                      (try (have c67b3 : ¬ (x7_54 = x10_54) := by simpa using c67))
                      clear c67
                      replace H := Option.bind_eq_some_iff.mp H
                      obtain ⟨⟨t145, t146, t147, t148, t149, t150⟩, A730, H⟩ := H
                      replace H : (some (t145, t146, t147, t148, t149, t150)) = some (r1, r2, r3, r4, r5, r6) := H
                      have A73 := Aside0.mk A730
                      clear A730
                      simp only [Option.some.injEq, Prod.mk.injEq] at H
                      obtain ⟨rfl, rfl, rfl, rfl, rfl, rfl⟩ := H
                      go_wp2_with (first | ((with_reducible refine gate_callee (f := 91) rfl ?_); refine goesL_ (some 101) rfl rfl Try.func91 (by kernel_rfl) rfl #[.bool x7_54, .int .u64 (IntKind.u64.wrap ((IntKind.u64.wrap ((IntKind.u64.wrap ((IntKind.u64.wrap (x8_54 * 16777216)) - x11_56)) * 2)) - x14_56)), .int .i64 (wrap64 (x9_54 - 25)), .bool false] rfl (by (try simp only [List.map_toArray, List.map_cons, List.map_nil]); first | done | rfl | (simp only [List.length_drop, List.length_take]; rfl)) ?_; (with_reducible refine (five_pack.calls kj56 x7_54 (IntKind.u64.wrap ((IntKind.u64.wrap ((IntKind.u64.wrap ((IntKind.u64.wrap (x8_54 * 16777216)) - x11_56)) * 2)) - x14_56)) (wrap64 (x9_54 - 25)) false t145 t146 t147 t148 t149 t150 _ A73.out).mono ?_); rintro e w74 ⟨rfl, hb⟩; refine ⟨_, rfl, ?_⟩; have n0_ := Aside0.mk (blk_below (g := gb129) (o := .cells #[.int .u8 a0_0, .int .u8 a0_1, .int .u8 a0_2, .int .u8 a0_3, .int .u8 a0_4] 57 (0, 0)) (by (with_reducible repeat (first | refine blk_drewN ?_ _ | refine blk_drew ?_ | refine blk_alloc ?_ _)); exact BK129.out) hb); have n1_ := Aside0.mk (blk_below (g := gb130) (o := .cells #[.int .u8 a1_0, .int .u8 a1_1, .int .u8 a1_2, .int .u8 a1_3, .int .u8 a1_4] 57 (0, 0)) (by (with_reducible repeat (first | refine blk_drewN ?_ _ | refine blk_drew ?_ | refine blk_alloc ?_ _)); exact BK130.out) hb); have n2_ := Aside0.mk (blk_below (g := gb131) (o := .cells #[.int .u8 0, .int .u8 0, .int .u8 0, .int .u8 0, .int .u8 0] 57 (0, 0)) (by (with_reducible repeat (first | refine blk_drewN ?_ _ | refine blk_drew ?_ | refine blk_alloc ?_ _)); exact BK131.out) hb); have n3_ := Aside0.mk (below_step (by repeat (first | (with_reducible first | exact HB.out | apply below_alloc | apply pw_below_drewN | apply below_drew1 | refine below_set ?_ GE129.out | refine below_set ?_ GE130.out | refine below_set ?_ GE131.out) | exact HB.out)) hb); clear BK129; clear BK130; clear BK131; clear HB; have BK129 := n0_; have BK130 := n1_; have BK131 := n2_; have HB := n3_; clear n0_ n1_ n2_ n3_; (try clear hb); (try clear hb2); (try clear hk); (try clear hi); have hnb75 := NB131_129.out; have hnc75 := NB129_131.out; have hnb76 := NB131_130.out; have hnc76 := NB130_131.out; have hcz77_0 : w74.cell? ⟨gb131, 0, none⟩ = some (.int .u8 0) := (blk_cell BK131.out 0).trans rfl; have hcz77_1 : w74.cell? ⟨gb131, 1, none⟩ = some (.int .u8 0) := (blk_cell BK131.out 1).trans rfl; have hcz77_2 : w74.cell? ⟨gb131, 2, none⟩ = some (.int .u8 0) := (blk_cell BK131.out 2).trans rfl; have hcz77_3 : w74.cell? ⟨gb131, 3, none⟩ = some (.int .u8 0) := (blk_cell BK131.out 3).trans rfl; have hcz77_4 : w74.cell? ⟨gb131, 4, none⟩ = some (.int .u8 0) := (blk_cell BK131.out 4).trans rfl; have hfz77_0 := blk_frozen BK131.out 0; have hfz77_1 := blk_frozen BK131.out 1; have hfz77_2 := blk_frozen BK131.out 2; have hfz77_3 := blk_frozen BK131.out 3; have hfz77_4 := blk_frozen BK131.out 4))
                      refine bodyPost_ret (results_ct rfl _ _ gb131 57 #[.int .u8 t145, .int .u8 t146, .int .u8 t147, .int .u8 t148, .int .u8 t149] (0, 0) _ rfl (by (with_reducible repeat (first | refine blk_drewN ?_ _ | refine blk_drew ?_ | refine blk_alloc ?_ _)); refine blk_put (cs := #[.int .u8 t145, .int .u8 t146, .int .u8 t147, .int .u8 t148, .int .u8 0]) ?_ 4 _ rfl; (with_reducible repeat (first | refine blk_drewN ?_ _ | refine blk_drew ?_ | refine blk_alloc ?_ _)); refine blk_put (cs := #[.int .u8 t145, .int .u8 t146, .int .u8 t147, .int .u8 0, .int .u8 0]) ?_ 3 _ rfl; (with_reducible repeat (first | refine blk_drewN ?_ _ | refine blk_drew ?_ | refine blk_alloc ?_ _)); refine blk_put (cs := #[.int .u8 t145, .int .u8 t146, .int .u8 0, .int .u8 0, .int .u8 0]) ?_ 2 _ rfl; (with_reducible repeat (first | refine blk_drewN ?_ _ | refine blk_drew ?_ | refine blk_alloc ?_ _)); refine blk_put (cs := #[.int .u8 t145, .int .u8 0, .int .u8 0, .int .u8 0, .int .u8 0]) ?_ 1 _ rfl; (with_reducible repeat (first | refine blk_drewN ?_ _ | refine blk_drew ?_ | refine blk_alloc ?_ _)); refine blk_put (cs := #[.int .u8 0, .int .u8 0, .int .u8 0, .int .u8 0, .int .u8 0]) ?_ 0 _ rfl; (with_reducible repeat (first | refine blk_drewN ?_ _ | refine blk_drew ?_ | refine blk_alloc ?_ _)); exact BK131.out) Try.underlying57 rfl (by kernel_rfl)) rfl ?_
                      exact ⟨by first | rfl | (simp [errW_none, errW_some] <;> rfl) | (simp [*, errW_none, errW_some] <;> rfl), by repeat (first | (with_reducible first | exact HB.out | apply below_alloc | apply pw_below_drewN | apply below_drew1 | refine below_set ?_ GE129.out | refine below_set ?_ GE130.out | refine below_set ?_ GE131.out) | exact HB.out)⟩
  · rw [if_neg c4] at H
    have c4b0 : (t132 == 0) = false := beq_eq_false_iff_ne.mpr c4
    have c4b1 : (t132 != 0) = true := bne_iff_ne.mpr c4
    simp only [Option.some.injEq, Prod.mk.injEq] at H
    obtain ⟨rfl, rfl, rfl, rfl, rfl, rfl⟩ := H
    go_enter Try.func59, Try.ntmps59
    go_wp2_with (first | ((with_reducible refine gate_dst (N := 2) rfl ?_); refine box_event ?hg (N := 2) ?hd (cs := #[.int .u8 a0_0, .int .u8 a0_1, .int .u8 a0_2, .int .u8 a0_3, .int .u8 a0_4]) (t := 57) ?hr ?_; (case hd => rfl); (case hg => rfl); (case hr => first | (go_simp; done) | (go_simp; rfl)); intro gb129 hg w78 hbox hb; have n0_ := Aside0.mk (below_step (by repeat (first | (with_reducible first | exact HB.out | apply below_alloc | apply pw_below_drewN | apply below_drew1) | exact HB.out)) hb); have n1_ := Aside0.mk (hbox); have n2_ := Aside0.mk ((by rw [hg]; exact (below_size (by repeat (first | (with_reducible first | exact HB.out | apply below_alloc | apply pw_below_drewN | apply below_drew1) | exact HB.out))) : w.heap.size ≤ gb129)); have n3_ := Aside0.mk ((by rw [hg]; exact (below_size (by repeat (first | (with_reducible first | exact HB.out | apply below_alloc | apply pw_below_drewN | apply below_drew1) | exact HB.out))) : w.heap.size ≤ gb129)); clear HB; have HB := n0_; have BK129 := n1_; have GW129 := n2_; have GE129 := n3_; clear n0_ n1_ n2_ n3_; clear hb hbox hg) | ((with_reducible refine gate_dst (N := 3) rfl ?_); refine box_event ?hg (N := 3) ?hd (cs := #[.int .u8 a1_0, .int .u8 a1_1, .int .u8 a1_2, .int .u8 a1_3, .int .u8 a1_4]) (t := 57) ?hr ?_; (case hd => rfl); (case hg => rfl); (case hr => first | (go_simp; done) | (go_simp; rfl)); intro gb130 hg w79 hbox hb; have n0_ := Aside0.mk (blk_below (g := gb129) (o := .cells #[.int .u8 a0_0, .int .u8 a0_1, .int .u8 a0_2, .int .u8 a0_3, .int .u8 a0_4] 57 (0, 0)) (by (with_reducible repeat (first | refine blk_drewN ?_ _ | refine blk_drew ?_ | refine blk_alloc ?_ _)); exact BK129.out) hb); have n1_ := Aside0.mk (below_step (by repeat (first | (with_reducible first | exact HB.out | apply below_alloc | apply pw_below_drewN | apply below_drew1 | refine below_set ?_ GE129.out) | exact HB.out)) hb); have n2_ := Aside0.mk (hbox); have n3_ := Aside0.mk ((by rw [hg]; exact (below_size (by repeat (first | (with_reducible first | exact HB.out | apply below_alloc | apply pw_below_drewN | apply below_drew1 | refine below_set ?_ GE129.out) | exact HB.out))) : w.heap.size ≤ gb130)); have n4_ := Aside0.mk ((by rw [hg]; exact (below_size (by repeat (first | (with_reducible first | exact HB.out | apply below_alloc | apply pw_below_drewN | apply below_drew1 | refine below_set ?_ GE129.out) | exact HB.out))) : w.heap.size ≤ gb130)); have n5_ := Aside0.mk ((by rw [hg]; exact Nat.ne_of_lt (blk_lt (g := gb129) (o := .cells #[.int .u8 a0_0, .int .u8 a0_1, .int .u8 a0_2, .int .u8 a0_3, .int .u8 a0_4] 57 (0, 0)) (by (with_reducible repeat (first | refine blk_drewN ?_ _ | refine blk_drew ?_ | refine blk_alloc ?_ _)); exact BK129.out)) : gb129 ≠ gb130)); have n6_ := Aside0.mk ((by rw [hg]; exact Nat.ne_of_gt (blk_lt (g := gb129) (o := .cells #[.int .u8 a0_0, .int .u8 a0_1, .int .u8 a0_2, .int .u8 a0_3, .int .u8 a0_4] 57 (0, 0)) (by (with_reducible repeat (first | refine blk_drewN ?_ _ | refine blk_drew ?_ | refine blk_alloc ?_ _)); exact BK129.out)) : gb130 ≠ gb129)); clear BK129; clear HB; have BK129 := n0_; have HB := n1_; have BK130 := n2_; have GW130 := n3_; have GE130 := n4_; have NB129_130 := n5_; have NB130_129 := n6_; clear n0_ n1_ n2_ n3_ n4_ n5_ n6_; clear hb hbox hg) | ((with_reducible refine gate_dst (N := 4) rfl ?_); refine box_event ?hg (N := 4) ?hd (cs := #[.int .u8 0, .int .u8 0, .int .u8 0, .int .u8 0, .int .u8 0]) (t := 57) ?hr ?_; (case hd => rfl); (case hg => rfl); (case hr => first | (go_simp; done) | (go_simp; rfl)); intro gb131 hg w80 hbox hb; have n0_ := Aside0.mk (blk_below (g := gb129) (o := .cells #[.int .u8 a0_0, .int .u8 a0_1, .int .u8 a0_2, .int .u8 a0_3, .int .u8 a0_4] 57 (0, 0)) (by (with_reducible repeat (first | refine blk_drewN ?_ _ | refine blk_drew ?_ | refine blk_alloc ?_ _)); exact BK129.out) hb); have n1_ := Aside0.mk (blk_below (g := gb130) (o := .cells #[.int .u8 a1_0, .int .u8 a1_1, .int .u8 a1_2, .int .u8 a1_3, .int .u8 a1_4] 57 (0, 0)) (by (with_reducible repeat (first | refine blk_drewN ?_ _ | refine blk_drew ?_ | refine blk_alloc ?_ _)); exact BK130.out) hb); have n2_ := Aside0.mk (below_step (by repeat (first | (with_reducible first | exact HB.out | apply below_alloc | apply pw_below_drewN | apply below_drew1 | refine below_set ?_ GE129.out | refine below_set ?_ GE130.out) | exact HB.out)) hb); have n3_ := Aside0.mk (hbox); have n4_ := Aside0.mk ((by rw [hg]; exact (below_size (by repeat (first | (with_reducible first | exact HB.out | apply below_alloc | apply pw_below_drewN | apply below_drew1 | refine below_set ?_ GE129.out | refine below_set ?_ GE130.out) | exact HB.out))) : w.heap.size ≤ gb131)); have n5_ := Aside0.mk ((by rw [hg]; exact (below_size (by repeat (first | (with_reducible first | exact HB.out | apply below_alloc | apply pw_below_drewN | apply below_drew1 | refine below_set ?_ GE129.out | refine below_set ?_ GE130.out) | exact HB.out))) : w.heap.size ≤ gb131)); have n6_ := Aside0.mk ((by rw [hg]; exact Nat.ne_of_lt (blk_lt (g := gb129) (o := .cells #[.int .u8 a0_0, .int .u8 a0_1, .int .u8 a0_2, .int .u8 a0_3, .int .u8 a0_4] 57 (0, 0)) (by (with_reducible repeat (first | refine blk_drewN ?_ _ | refine blk_drew ?_ | refine blk_alloc ?_ _)); exact BK129.out)) : gb129 ≠ gb131)); have n7_ := Aside0.mk ((by rw [hg]; exact Nat.ne_of_gt (blk_lt (g := gb129) (o := .cells #[.int .u8 a0_0, .int .u8 a0_1, .int .u8 a0_2, .int .u8 a0_3, .int .u8 a0_4] 57 (0, 0)) (by (with_reducible repeat (first | refine blk_drewN ?_ _ | refine blk_drew ?_ | refine blk_alloc ?_ _)); exact BK129.out)) : gb131 ≠ gb129)); have n8_ := Aside0.mk ((by rw [hg]; exact Nat.ne_of_lt (blk_lt (g := gb130) (o := .cells #[.int .u8 a1_0, .int .u8 a1_1, .int .u8 a1_2, .int .u8 a1_3, .int .u8 a1_4] 57 (0, 0)) (by (with_reducible repeat (first | refine blk_drewN ?_ _ | refine blk_drew ?_ | refine blk_alloc ?_ _)); exact BK130.out)) : gb130 ≠ gb131)); have n9_ := Aside0.mk ((by rw [hg]; exact Nat.ne_of_gt (blk_lt (g := gb130) (o := .cells #[.int .u8 a1_0, .int .u8 a1_1, .int .u8 a1_2, .int .u8 a1_3, .int .u8 a1_4] 57 (0, 0)) (by (with_reducible repeat (first | refine blk_drewN ?_ _ | refine blk_drew ?_ | refine blk_alloc ?_ _)); exact BK130.out)) : gb131 ≠ gb130)); clear BK129; clear BK130; clear HB; have BK129 := n0_; have BK130 := n1_; have HB := n2_; have BK131 := n3_; have GW131 := n4_; have GE131 := n5_; have NB129_131 := n6_; have NB131_129 := n7_; have NB130_131 := n8_; have NB131_130 := n9_; clear n0_ n1_ n2_ n3_ n4_ n5_ n6_ n7_ n8_ n9_; clear hb hbox hg; have hnb81 := NB129_130.out; have hnc81 := NB130_129.out; have hnb82 := NB129_131.out; have hnc82 := NB131_129.out; have hcz83_0 : w80.cell? ⟨gb129, 0, none⟩ = some (.int .u8 a0_0) := (blk_cell BK129.out 0).trans rfl; have hcz83_1 : w80.cell? ⟨gb129, 1, none⟩ = some (.int .u8 a0_1) := (blk_cell BK129.out 1).trans rfl; have hcz83_2 : w80.cell? ⟨gb129, 2, none⟩ = some (.int .u8 a0_2) := (blk_cell BK129.out 2).trans rfl; have hcz83_3 : w80.cell? ⟨gb129, 3, none⟩ = some (.int .u8 a0_3) := (blk_cell BK129.out 3).trans rfl; have hcz83_4 : w80.cell? ⟨gb129, 4, none⟩ = some (.int .u8 a0_4) := (blk_cell BK129.out 4).trans rfl; have hfz83_0 := blk_frozen BK129.out 0; have hfz83_1 := blk_frozen BK129.out 1; have hfz83_2 := blk_frozen BK129.out 2; have hfz83_3 := blk_frozen BK129.out 3; have hfz83_4 := blk_frozen BK129.out 4; have hnb84 := NB130_131.out; have hnc84 := NB131_130.out; have hcz85_0 : w80.cell? ⟨gb130, 0, none⟩ = some (.int .u8 a1_0) := (blk_cell BK130.out 0).trans rfl; have hcz85_1 : w80.cell? ⟨gb130, 1, none⟩ = some (.int .u8 a1_1) := (blk_cell BK130.out 1).trans rfl; have hcz85_2 : w80.cell? ⟨gb130, 2, none⟩ = some (.int .u8 a1_2) := (blk_cell BK130.out 2).trans rfl; have hcz85_3 : w80.cell? ⟨gb130, 3, none⟩ = some (.int .u8 a1_3) := (blk_cell BK130.out 3).trans rfl; have hcz85_4 : w80.cell? ⟨gb130, 4, none⟩ = some (.int .u8 a1_4) := (blk_cell BK130.out 4).trans rfl; have hfz85_0 := blk_frozen BK130.out 0; have hfz85_1 := blk_frozen BK130.out 1; have hfz85_2 := blk_frozen BK130.out 2; have hfz85_3 := blk_frozen BK130.out 3; have hfz85_4 := blk_frozen BK130.out 4) | ((with_reducible refine gate_callee (f := 103) rfl ?_); refine goesL_ (some 17) rfl rfl Try.func103 (by kernel_rfl) rfl #[.agg #[.int .u8 a0_0, .int .u8 a0_1, .int .u8 a0_2, .int .u8 a0_3, .int .u8 a0_4], .agg #[.int .u8 a1_0, .int .u8 a1_1, .int .u8 a1_2, .int .u8 a1_3, .int .u8 a1_4]] rfl (by (try simp only [List.map_toArray, List.map_cons, List.map_nil]); first | done | rfl | (simp only [List.length_drop, List.length_take]; rfl)) ?_; (with_reducible refine (five_both.calls a0_0 a0_1 a0_2 a0_3 a0_4 a1_0 a1_1 a1_2 a1_3 a1_4 t132 _ A3.out).mono ?_); rintro e w86 ⟨rfl, hb⟩; refine ⟨_, rfl, ?_⟩; have n0_ := Aside0.mk (blk_below (g := gb129) (o := .cells #[.int .u8 a0_0, .int .u8 a0_1, .int .u8 a0_2, .int .u8 a0_3, .int .u8 a0_4] 57 (0, 0)) (by (with_reducible repeat (first | refine blk_drewN ?_ _ | refine blk_drew ?_ | refine blk_alloc ?_ _)); exact BK129.out) hb); have n1_ := Aside0.mk (blk_below (g := gb130) (o := .cells #[.int .u8 a1_0, .int .u8 a1_1, .int .u8 a1_2, .int .u8 a1_3, .int .u8 a1_4] 57 (0, 0)) (by (with_reducible repeat (first | refine blk_drewN ?_ _ | refine blk_drew ?_ | refine blk_alloc ?_ _)); exact BK130.out) hb); have n2_ := Aside0.mk (blk_below (g := gb131) (o := .cells #[.int .u8 0, .int .u8 0, .int .u8 0, .int .u8 0, .int .u8 0] 57 (0, 0)) (by (with_reducible repeat (first | refine blk_drewN ?_ _ | refine blk_drew ?_ | refine blk_alloc ?_ _)); exact BK131.out) hb); have n3_ := Aside0.mk (below_step (by repeat (first | (with_reducible first | exact HB.out | apply below_alloc | apply pw_below_drewN | apply below_drew1 | refine below_set ?_ GE129.out | refine below_set ?_ GE130.out | refine below_set ?_ GE131.out) | exact HB.out)) hb); clear BK129; clear BK130; clear BK131; clear HB; have BK129 := n0_; have BK130 := n1_; have BK131 := n2_; have HB := n3_; clear n0_ n1_ n2_ n3_; (try clear hb); (try clear hb2); (try clear hk); (try clear hi); have hcz87_0 : w86.cell? ⟨gb131, 0, none⟩ = some (.int .u8 0) := (blk_cell BK131.out 0).trans rfl; have hcz87_1 : w86.cell? ⟨gb131, 1, none⟩ = some (.int .u8 0) := (blk_cell BK131.out 1).trans rfl; have hcz87_2 : w86.cell? ⟨gb131, 2, none⟩ = some (.int .u8 0) := (blk_cell BK131.out 2).trans rfl; have hcz87_3 : w86.cell? ⟨gb131, 3, none⟩ = some (.int .u8 0) := (blk_cell BK131.out 3).trans rfl; have hcz87_4 : w86.cell? ⟨gb131, 4, none⟩ = some (.int .u8 0) := (blk_cell BK131.out 4).trans rfl; have hfz87_0 := blk_frozen BK131.out 0; have hfz87_1 := blk_frozen BK131.out 1; have hfz87_2 := blk_frozen BK131.out 2; have hfz87_3 := blk_frozen BK131.out 3; have hfz87_4 := blk_frozen BK131.out 4))
    refine bodyPost_ret (results_ct rfl _ _ gb131 57 #[.int .u8 0, .int .u8 0, .int .u8 0, .int .u8 0, .int .u8 0] (0, 0) _ rfl (by (with_reducible repeat (first | refine blk_drewN ?_ _ | refine blk_drew ?_ | refine blk_alloc ?_ _)); refine blk_put (cs := #[.int .u8 0, .int .u8 0, .int .u8 0, .int .u8 0, .int .u8 0]) ?_ 4 _ rfl; (with_reducible repeat (first | refine blk_drewN ?_ _ | refine blk_drew ?_ | refine blk_alloc ?_ _)); refine blk_put (cs := #[.int .u8 0, .int .u8 0, .int .u8 0, .int .u8 0, .int .u8 0]) ?_ 3 _ rfl; (with_reducible repeat (first | refine blk_drewN ?_ _ | refine blk_drew ?_ | refine blk_alloc ?_ _)); refine blk_put (cs := #[.int .u8 0, .int .u8 0, .int .u8 0, .int .u8 0, .int .u8 0]) ?_ 2 _ rfl; (with_reducible repeat (first | refine blk_drewN ?_ _ | refine blk_drew ?_ | refine blk_alloc ?_ _)); refine blk_put (cs := #[.int .u8 0, .int .u8 0, .int .u8 0, .int .u8 0, .int .u8 0]) ?_ 1 _ rfl; (with_reducible repeat (first | refine blk_drewN ?_ _ | refine blk_drew ?_ | refine blk_alloc ?_ _)); refine blk_put (cs := #[.int .u8 0, .int .u8 0, .int .u8 0, .int .u8 0, .int .u8 0]) ?_ 0 _ rfl; (with_reducible repeat (first | refine blk_drewN ?_ _ | refine blk_drew ?_ | refine blk_alloc ?_ _)); exact BK131.out) Try.underlying57 rfl (by kernel_rfl)) rfl ?_
    exact ⟨by first | rfl | (simp [errW_none, errW_some] <;> rfl) | (simp [*, errW_none, errW_some] <;> rfl), by repeat (first | (with_reducible first | exact HB.out | apply below_alloc | apply pw_below_drewN | apply below_drew1 | refine below_set ?_ GE129.out | refine below_set ?_ GE130.out | refine below_set ?_ GE131.out) | exact HB.out)⟩

end Go.Proofs.Ytgiodeiibmbhhaa.PFiveAdds
