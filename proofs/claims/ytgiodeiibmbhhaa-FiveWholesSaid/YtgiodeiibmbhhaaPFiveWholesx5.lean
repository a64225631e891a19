-- Written by this session's own program (wip/mp, over the kit's print) for this claim; Lean checks it.
import Derived.Test.YtgiodeiibmbhhaaPFiveWholesx0
import Derived.Test.YtgiodeiibmbhhaaPFiveWholesx4
namespace Go.Proofs.Ytgiodeiibmbhhaa.PFiveWholes
open Go.RowKit Go.Proofs.YtgiodeiibmbhhaaW.PrintWords Go.Proofs.YtgiodeiibmbhhaaW.PrintLast Go.Proofs.YtgiodeiibmbhhaaW.PrintMore
attribute [local go_sem] max2_int min2_int max_two min_two max_three min_three max_four min_four   -- for this text's walks alone
set_option linter.unusedVariables false
set_option linter.unusedSimpArgs false

/-! ### five_Int: function 44 -/
def five_Int.j0 : Nat → Bool → Int → Bool → Option (Int × Int)
  | 0, _, _, _ => none
  | k + 1, x5, x8, x9 => if x5 = true then (if x9 = true then (some (wrap64 (-(wrap64 (x8 + 1))), 0)) else (some (wrap64 (-x8), 0))) else (some (x8, 0))
def five_Int.f (k : Nat) (a0_0 : Int) (a0_1 : Int) (a0_2 : Int) (a0_3 : Int) (a0_4 : Int) : Option (Int × Int) := (five_Check.f a0_0 a0_1 a0_2 a0_3 a0_4).bind fun t214 => (if t214 = 0 then ((five_parts.f a0_0 a0_1 a0_2 a0_3 a0_4).bind fun bt215 => (if bt215.2.2 > 30 then (some (0, 21)) else (if bt215.2.2 ≥ 0 then (if 0 ≤ bt215.2.2 then (five_Int.j0 k bt215.1 (wrap64 (shl .u64 bt215.2.1 bt215.2.2)) false) else (none)) else (if bt215.2.2 > (-32) then (if 0 ≤ (wrap64 (-bt215.2.2)) then (five_Int.j0 k bt215.1 (wrap64 (shr .u64 bt215.2.1 (wrap64 (-bt215.2.2)))) ((Go.bits .and .u64 bt215.2.1 (IntKind.u64.wrap ((shl .u64 1 (wrap64 (-bt215.2.2))) - 1))) != 0)) else (none)) else (five_Int.j0 k bt215.1 0 (bt215.2.1 != 0)))))) else (some (0, t214)))
theorem five_Int.mono_l : ∀ k, (∀ y0 y1 y2, LeO (five_Int.j0 k y0 y1 y2) (five_Int.j0 (k + 1) y0 y1 y2))
  | 0 => fun _ _ _ r h => by simp [five_Int.j0] at h
  | k + 1 => by
    have ih0 := five_Int.mono_l k
    · intro y0 y1 y2
      unfold five_Int.j0
      repeat' first
      | (with_reducible exact ih0 _ _ _)
      | (with_reducible exact LeO.refl _)
      | (with_reducible exact LeO.none _)
      | (with_reducible refine LeO.ite ?_ ?_)
      | (with_reducible refine LeO.bind ?_ (fun _ => ?_))
      | exact ih0 _ _ _
      | exact LeO.none _
      | refine LeO.ite ?_ ?_
      | refine LeO.bind ?_ (fun _ => ?_)
theorem five_Int.mono : ∀ a0 a1 a2 a3 a4 k, LeO (five_Int.f k a0 a1 a2 a3 a4) (five_Int.f (k + 1) a0 a1 a2 a3 a4) := by
  intro a0 a1 a2 a3 a4 k
  have ih0 := five_Int.mono_l k
  unfold five_Int.f
  repeat' first
      | (with_reducible exact ih0 _ _ _)
      | (with_reducible exact LeO.refl _)
      | (with_reducible exact LeO.none _)
      | (with_reducible refine LeO.ite ?_ ?_)
      | (with_reducible refine LeO.bind ?_ (fun _ => ?_))
      | exact ih0 _ _ _
      | exact LeO.none _
      | refine LeO.ite ?_ ?_
      | refine LeO.bind ?_ (fun _ => ?_)
set_option maxHeartbeats 8000000 in
set_option maxRecDepth 100000 in
theorem five_Int.calls (k : Nat) (a0_0 : Int) (a0_1 : Int) (a0_2 : Int) (a0_3 : Int) (a0_4 : Int) (r1 : Int) (r2 : Int) (w : World) (h : five_Int.f k a0_0 a0_1 a0_2 a0_3 a0_4 = some (r1, r2)) :
    Calls Try.prog 44 #[.agg #[.int .u8 a0_0, .int .u8 a0_1, .int .u8 a0_2, .int .u8 a0_3, .int .u8 a0_4]] w fun e w' => e = .returned (.tuple #[.int .i64 r1, .int .i64 r2]) ∧ Below w.heap.size w w' := by
  have hu57 := Try.underlying57
  have HB := Aside0.mk (Below.refl w.heap.size w)
  have H : ((five_Check.f a0_0 a0_1 a0_2 a0_3 a0_4).bind fun t214 => (if t214 = 0 then ((five_parts.f a0_0 a0_1 a0_2 a0_3 a0_4).bind fun bt215 => (if bt215.2.2 > 30 then (some (0, 21)) else (if bt215.2.2 ≥ 0 then (if 0 ≤ bt215.2.2 then (five_Int.j0 k bt215.1 (wrap64 (shl .u64 bt215.2.1 bt215.2.2)) false) else (none)) else (if bt215.2.2 > (-32) then (if 0 ≤ (wrap64 (-bt215.2.2)) then (five_Int.j0 k bt215.1 (wrap64 (shr .u64 bt215.2.1 (wrap64 (-bt215.2.2)))) ((Go.bits .and .u64 bt215.2.1 (IntKind.u64.wrap ((shl .u64 1 (wrap64 (-bt215.2.2))) - 1))) != 0)) else (none)) else (five_Int.j0 k bt215.1 0 (bt215.2.1 != 0)))))) else (some (0, t214)))) = some (r1, r2) := h
  clear h
  replace H := Option.bind_eq_some_iff.mp H
  obtain ⟨t214, A20, H⟩ := H
  replace H : (if t214 = 0 then ((five_parts.f a0_0 a0_1 a0_2 a0_3 a0_4).bind fun bt215 => (if bt215.2.2 > 30 then (some (0, 21)) else (if bt215.2.2 ≥ 0 then (if 0 ≤ bt215.2.2 then (five_Int.j0 k bt215.1 (wrap64 (shl .u64 bt215.2.1 bt215.2.2)) false) else (none)) else (if bt215.2.2 > (-32) then (if 0 ≤ (wrap64 (-bt215.2.2)) then (five_Int.j0 k bt215.1 (wrap64 (shr .u64 bt215.2.1 (wrap64 (-bt215.2.2)))) ((Go.bits .and .u64 bt215.2.1 (IntKind.u64.wrap ((shl .u64 1 (wrap64 (-bt215.2.2))) - 1))) != 0)) else (none)) else (five_Int.j0 k bt215.1 0 (bt215.2.1 != 0)))))) else (some (0, t214))) = some (r1, r2) := H
  have A2 := Aside0.mk A20
  clear A20
  by_cases c3 : t214 = 0
  · rw [if_pos c3] at H
    have c3b0 : (t214 == 0) = true := beq_iff_eq.mpr c3
    have c3b1 : (t214 != 0) = false := bne_eq_false_iff_eq.mpr c3
    clear c3
    replace H := Option.bind_eq_some_iff.mp H
    obtain ⟨⟨t215, t216, t217⟩, A40, H⟩ := H
    replace H : (if t217 > 30 then (some (0, 21)) else (if t217 ≥ 0 then (if 0 ≤ t217 then (five_Int.j0 k t215 (wrap64 (shl .u64 t216 t217)) false) else (none)) else (if t217 > (-32) then (if 0 ≤ (wrap64 (-t217)) then (five_Int.j0 k t215 (wrap64 (shr .u64 t216 (wrap64 (-t217)))) ((Go.bits .and .u64 t216 (IntKind.u64.wrap ((shl .u64 1 (wrap64 (-t217))) - 1))) != 0)) else (none)) else (five_Int.j0 k t215 0 (t216 != 0))))) = some (r1, r2) := H
    have A4 := Aside0.mk A40
    clear A40
    by_cases c5 : t217 > 30
    · rw [if_pos c5] at H
      have c5b0 : decide (30 < t217) = true := decide_eq_true c5
      clear c5
      simp only [Option.some.injEq, Prod.mk.injEq] at H
      obtain ⟨rfl, rfl⟩ := H
      go_enter Try.func44, Try.ntmps44
      go_wp2_with (first | ((with_reducible refine gate_dst (N := 1) rfl ?_); refine box_event ?hg (N := 1) ?hd (cs := #[.int .u8 a0_0, .int .u8 a0_1, .int .u8 a0_2, .int .u8 a0_3, .int .u8 a0_4]) (t := 57) ?hr ?_; (case hd => rfl); (case hg => rfl); (case hr => first | (go_simp; done) | (go_simp; rfl)); intro gb213 hg w6 hbox hb; have n0_ := Aside0.mk (below_step (by repeat (first | (with_reducible first | exact HB.out | apply below_alloc | apply pw_below_drewN | apply below_drew1) | exact HB.out)) hb); have n1_ := Aside0.mk (hbox); have n2_ := Aside0.mk ((by rw [hg]; exact (below_size (by repeat (first | (with_reducible first | exact HB.out | apply below_alloc | apply pw_below_drewN | apply below_drew1) | exact HB.out))) : w.heap.size ≤ gb213)); have n3_ := Aside0.mk ((by rw [hg]; exact (below_size (by repeat (first | (with_reducible first | exact HB.out | apply below_alloc | apply pw_below_drewN | apply below_drew1) | exact HB.out))) : w.heap.size ≤ gb213)); clear HB; have HB := n0_; have BK213 := n1_; have GW213 := n2_; have GE213 := n3_; clear n0_ n1_ n2_ n3_; clear hb hbox hg; have hcz7_0 : w6.cell? ⟨gb213, 0, none⟩ = some (.int .u8 a0_0) := (blk_cell BK213.out 0).trans rfl; have hcz7_1 : w6.cell? ⟨gb213, 1, none⟩ = some (.int .u8 a0_1) := (blk_cell BK213.out 1).trans rfl; have hcz7_2 : w6.cell? ⟨gb213, 2, none⟩ = some (.int .u8 a0_2) := (blk_cell BK213.out 2).trans rfl; have hcz7_3 : w6.cell? ⟨gb213, 3, none⟩ = some (.int .u8 a0_3) := (blk_cell BK213.out 3).trans rfl; have hcz7_4 : w6.cell? ⟨gb213, 4, none⟩ = some (.int .u8 a0_4) := (blk_cell BK213.out 4).trans rfl; have hfz7_0 := blk_frozen BK213.out 0; have hfz7_1 := blk_frozen BK213.out 1; have hfz7_2 := blk_frozen BK213.out 2; have hfz7_3 := blk_frozen BK213.out 3; have hfz7_4 := blk_frozen BK213.out 4) | (go_at_call 47; (with_reducible refine (five_Check.calls a0_0 a0_1 a0_2 a0_3 a0_4 t214 _ A2.out).mono ?_); rintro e w8 ⟨rfl, hb⟩; have n0_ := Aside0.mk (blk_below (g := gb213) (o := .cells #[.int .u8 a0_0, .int .u8 a0_1, .int .u8 a0_2, .int .u8 a0_3, .int .u8 a0_4] 57 (0, 0)) (by (with_reducible repeat (first | refine blk_drewN ?_ _ | refine blk_drew ?_ | refine blk_alloc ?_ _)); exact BK213.out) hb); have n1_ := Aside0.mk (below_step (by repeat (first | (with_reducible first | exact HB.out | apply below_alloc | apply pw_below_drewN | apply below_drew1 | refine below_set ?_ GE213.out) | exact HB.out)) hb); clear BK213; clear HB; have BK213 := n0_; have HB := n1_; clear n0_ n1_; (try clear hb); (try clear hb2); (try clear hk); (try clear hi); have hcz9_0 : w8.cell? ⟨gb213, 0, none⟩ = some (.int .u8 a0_0) := (blk_cell BK213.out 0).trans rfl; have hcz9_1 : w8.cell? ⟨gb213, 1, none⟩ = some (.int .u8 a0_1) := (blk_cell BK213.out 1).trans rfl; have hcz9_2 : w8.cell? ⟨gb213, 2, none⟩ = some (.int .u8 a0_2) := (blk_cell BK213.out 2).trans rfl; have hcz9_3 : w8.cell? ⟨gb213, 3, none⟩ = some (.int .u8 a0_3) := (blk_cell BK213.out 3).trans rfl; have hcz9_4 : w8.cell? ⟨gb213, 4, none⟩ = some (.int .u8 a0_4) := (blk_cell BK213.out 4).trans rfl; have hfz9_0 := blk_frozen BK213.out 0; have hfz9_1 := blk_frozen BK213.out 1; have hfz9_2 := blk_frozen BK213.out 2; have hfz9_3 := blk_frozen BK213.out 3; have hfz9_4 := blk_frozen BK213.out 4) | (go_at_call 94; (with_reducible refine (five_parts.calls a0_0 a0_1 a0_2 a0_3 a0_4 t215 t216 t217 _ A4.out).mono ?_); rintro e w10 ⟨rfl, hb⟩; have n0_ := Aside0.mk (blk_below (g := gb213) (o := .cells #[.int .u8 a0_0, .int .u8 a0_1, .int .u8 a0_2, .int .u8 a0_3, .int .u8 a0_4] 57 (0, 0)) (by (with_reducible repeat (first | refine blk_drewN ?_ _ | refine blk_drew ?_ | refine blk_alloc ?_ _)); exact BK213.out) hb); have n1_ := Aside0.mk (below_step (by repeat (first | (with_reducible first | exact HB.out | apply below_alloc | apply pw_below_drewN | apply below_drew1 | refine below_set ?_ GE213.out) | exact HB.out)) hb); clear BK213; clear HB; have BK213 := n0_; have HB := n1_; clear n0_ n1_; (try clear hb); (try clear hb2); (try clear hk); (try clear hi)))
      repeat (go_quiet (first | ((with_reducible refine gate_dst (N := 1) rfl ?_); refine box_event ?hg (N := 1) ?hd (cs := #[.int .u8 a0_0, .int .u8 a0_1, .int .u8 a0_2, .int .u8 a0_3, .int .u8 a0_4]) (t := 57) ?hr ?_; (case hd => rfl); (case hg => rfl); (case hr => first | (go_simp; done) | (go_simp; rfl)); intro gb213 hg w6 hbox hb; have n0_ := Aside0.mk (below_step (by repeat (first | (with_reducible first | exact HB.out | apply below_alloc | apply pw_below_drewN | apply below_drew1) | exact HB.out)) hb); have n1_ := Aside0.mk (hbox); have n2_ := Aside0.mk ((by rw [hg]; exact (below_size (by repeat (first | (with_reducible first | exact HB.out | apply below_alloc | apply pw_below_drewN | apply below_drew1) | exact HB.out))) : w.heap.size ≤ gb213)); have n3_ := Aside0.mk ((by rw [hg]; exact (below_size (by repeat (first | (with_reducible first | exact HB.out | apply below_alloc | apply pw_below_drewN | apply below_drew1) | exact HB.out))) : w.heap.size ≤ gb213)); clear HB; have HB := n0_; have BK213 := n1_; have GW213 := n2_; have GE213 := n3_; clear n0_ n1_ n2_ n3_; clear hb hbox hg; have hcz7_0 : w6.cell? ⟨gb213, 0, none⟩ = some (.int .u8 a0_0) := (blk_cell BK213.out 0).trans rfl; have hcz7_1 : w6.cell? ⟨gb213, 1, none⟩ = some (.int .u8 a0_1) := (blk_cell BK213.out 1).trans rfl; have hcz7_2 : w6.cell? ⟨gb213, 2, none⟩ = some (.int .u8 a0_2) := (blk_cell BK213.out 2).trans rfl; have hcz7_3 : w6.cell? ⟨gb213, 3, none⟩ = some (.int .u8 a0_3) := (blk_cell BK213.out 3).trans rfl; have hcz7_4 : w6.cell? ⟨gb213, 4, none⟩ = some (.int .u8 a0_4) := (blk_cell BK213.out 4).trans rfl; have hfz7_0 := blk_frozen BK213.out 0; have hfz7_1 := blk_frozen BK213.out 1; have hfz7_2 := blk_frozen BK213.out 2; have hfz7_3 := blk_frozen BK213.out 3; have hfz7_4 := blk_frozen BK213.out 4) | (go_at_call 47; (with_reducible refine (five_Check.calls a0_0 a0_1 a0_2 a0_3 a0_4 t214 _ A2.out).mono ?_); rintro e w8 ⟨rfl, hb⟩; have n0_ := Aside0.mk (blk_below (g := gb213) (o := .cells #[.int .u8 a0_0, .int .u8 a0_1, .int .u8 a0_2, .int .u8 a0_3, .int .u8 a0_4] 57 (0, 0)) (by (with_reducible repeat (first | refine blk_drewN ?_ _ | refine blk_drew ?_ | refine blk_alloc ?_ _)); exact BK213.out) hb); have n1_ := Aside0.mk (below_step (by repeat (first | (with_reducible first | exact HB.out | apply below_alloc | apply pw_below_drewN | apply below_drew1 | refine below_set ?_ GE213.out) | exact HB.out)) hb); clear BK213; clear HB; have BK213 := n0_; have HB := n1_; clear n0_ n1_; (try clear hb); (try clear hb2); (try clear hk); (try clear hi); have hcz9_0 : w8.cell? ⟨gb213, 0, none⟩ = some (.int .u8 a0_0) := (blk_cell BK213.out 0).trans rfl; have hcz9_1 : w8.cell? ⟨gb213, 1, none⟩ = some (.int .u8 a0_1) := (blk_cell BK213.out 1).trans rfl; have hcz9_2 : w8.cell? ⟨gb213, 2, none⟩ = some (.int .u8 a0_2) := (blk_cell BK213.out 2).trans rfl; have hcz9_3 : w8.cell? ⟨gb213, 3, none⟩ = some (.int .u8 a0_3) := (blk_cell BK213.out 3).trans rfl; have hcz9_4 : w8.cell? ⟨gb213, 4, none⟩ = some (.int .u8 a0_4) := (blk_cell BK213.out 4).trans rfl; have hfz9_0 := blk_frozen BK213.out 0; have hfz9_1 := blk_frozen BK213.out 1; have hfz9_2 := blk_frozen BK213.out 2; have hfz9_3 := blk_frozen BK213.out 3; have hfz9_4 := blk_frozen BK213.out 4) | (go_at_call 94; (with_reducible refine (five_parts.calls a0_0 a0_1 a0_2 a0_3 a0_4 t215 t216 t217 _ A4.out).mono ?_); rintro e w10 ⟨rfl, hb⟩; have n0_ := Aside0.mk (blk_below (g := gb213) (o := .cells #[.int .u8 a0_0, .int .u8 a0_1, .int .u8 a0_2, .int .u8 a0_3, .int .u8 a0_4] 57 (0, 0)) (by (with_reducible repeat (first | refine blk_drewN ?_ _ | refine blk_drew ?_ | refine blk_alloc ?_ _)); exact BK213.out) hb); have n1_ := Aside0.mk (below_step (by repeat (first | (with_reducible first | exact HB.out | apply below_alloc | apply pw_below_drewN | apply below_drew1 | refine below_set ?_ GE213.out) | exact HB.out)) hb); clear BK213; clear HB; have BK213 := n0_; have HB := n1_; clear n0_ n1_; (try clear hb); (try clear hb2); (try clear hk); (try clear hi))); try go_wp2_with (first | ((with_reducible refine gate_dst (N := 1) rfl ?_); refine box_event ?hg (N := 1) ?hd (cs := #[.int .u8 a0_0, .int .u8 a0_1, .int .u8 a0_2, .int .u8 a0_3, .int .u8 a0_4]) (t := 57) ?hr ?_; (case hd => rfl); (case hg => rfl); (case hr => first | (go_simp; done) | (go_simp; rfl)); intro gb213 hg w6 hbox hb; have n0_ := Aside0.mk (below_step (by repeat (first | (with_reducible first | exact HB.out | apply below_alloc | apply pw_below_drewN | apply below_drew1) | exact HB.out)) hb); have n1_ := Aside0.mk (hbox); have n2_ := Aside0.mk ((by rw [hg]; exact (below_size (by repeat (first | (with_reducible first | exact HB.out | apply below_alloc | apply pw_below_drewN | apply below_drew1) | exact HB.out))) : w.heap.size ≤ gb213)); have n3_ := Aside0.mk ((by rw [hg]; exact (below_size (by repeat (first | (with_reducible first | exact HB.out | apply below_alloc | apply pw_below_drewN | apply below_drew1) | exact HB.out))) : w.heap.size ≤ gb213)); clear HB; have HB := n0_; have BK213 := n1_; have GW213 := n2_; have GE213 := n3_; clear n0_ n1_ n2_ n3_; clear hb hbox hg; have hcz7_0 : w6.cell? ⟨gb213, 0, none⟩ = some (.int .u8 a0_0) := (blk_cell BK213.out 0).trans rfl; have hcz7_1 : w6.cell? ⟨gb213, 1, none⟩ = some (.int .u8 a0_1) := (blk_cell BK213.out 1).trans rfl; have hcz7_2 : w6.cell? ⟨gb213, 2, none⟩ = some (.int .u8 a0_2) := (blk_cell BK213.out 2).trans rfl; have hcz7_3 : w6.cell? ⟨gb213, 3, none⟩ = some (.int .u8 a0_3) := (blk_cell BK213.out 3).trans rfl; have hcz7_4 : w6.cell? ⟨gb213, 4, none⟩ = some (.int .u8 a0_4) := (blk_cell BK213.out 4).trans rfl; have hfz7_0 := blk_frozen BK213.out 0; have hfz7_1 := blk_frozen BK213.out 1; have hfz7_2 := blk_frozen BK213.out 2; have hfz7_3 := blk_frozen BK213.out 3; have hfz7_4 := blk_frozen BK213.out 4) | (go_at_call 47; (with_reducible refine (five_Check.calls a0_0 a0_1 a0_2 a0_3 a0_4 t214 _ A2.out).mono ?_); rintro e w8 ⟨rfl, hb⟩; have n0_ := Aside0.mk (blk_below (g := gb213) (o := .cells #[.int .u8 a0_0, .int .u8 a0_1, .int .u8 a0_2, .int .u8 a0_3, .int .u8 a0_4] 57 (0, 0)) (by (with_reducible repeat (first | refine blk_drewN ?_ _ | refine blk_drew ?_ | refine blk_alloc ?_ _)); exact BK213.out) hb); have n1_ := Aside0.mk (below_step (by repeat (first | (with_reducible first | exact HB.out | apply below_alloc | apply pw_below_drewN | apply below_drew1 | refine below_set ?_ GE213.out) | exact HB.out)) hb); clear BK213; clear HB; have BK213 := n0_; have HB := n1_; clear n0_ n1_; (try clear hb); (try clear hb2); (try clear hk); (try clear hi); have hcz9_0 : w8.cell? ⟨gb213, 0, none⟩ = some (.int .u8 a0_0) := (blk_cell BK213.out 0).trans rfl; have hcz9_1 : w8.cell? ⟨gb213, 1, none⟩ = some (.int .u8 a0_1) := (blk_cell BK213.out 1).trans rfl; have hcz9_2 : w8.cell? ⟨gb213, 2, none⟩ = some (.int .u8 a0_2) := (blk_cell BK213.out 2).trans rfl; have hcz9_3 : w8.cell? ⟨gb213, 3, none⟩ = some (.int .u8 a0_3) := (blk_cell BK213.out 3).trans rfl; have hcz9_4 : w8.cell? ⟨gb213, 4, none⟩ = some (.int .u8 a0_4) := (blk_cell BK213.out 4).trans rfl; have hfz9_0 := blk_frozen BK213.out 0; have hfz9_1 := blk_frozen BK213.out 1; have hfz9_2 := blk_frozen BK213.out 2; have hfz9_3 := blk_frozen BK213.out 3; have hfz9_4 := blk_frozen BK213.out 4) | (go_at_call 94; (with_reducible refine (five_parts.calls a0_0 a0_1 a0_2 a0_3 a0_4 t215 t216 t217 _ A4.out).mono ?_); rintro e w10 ⟨rfl, hb⟩; have n0_ := Aside0.mk (blk_below (g := gb213) (o := .cells #[.int .u8 a0_0, .int .u8 a0_1, .int .u8 a0_2, .int .u8 a0_3, .int .u8 a0_4] 57 (0, 0)) (by (with_reducible repeat (first | refine blk_drewN ?_ _ | refine blk_drew ?_ | refine blk_alloc ?_ _)); exact BK213.out) hb); have n1_ := Aside0.mk (below_step (by repeat (first | (with_reducible first | exact HB.out | apply below_alloc | apply pw_below_drewN | apply below_drew1 | refine below_set ?_ GE213.out) | exact HB.out)) hb); clear BK213; clear HB; have BK213 := n0_; have HB := n1_; clear n0_ n1_; (try clear hb); (try clear hb2); (try clear hk); (try clear hi))))
      go_ret2
      exact ⟨by first | rfl | (simp [errW_none, errW_some] <;> rfl) | (simp [*, errW_none, errW_some] <;> rfl), by repeat (first | (with_reducible first | exact HB.out | apply below_alloc | apply pw_below_drewN | apply below_drew1 | refine below_set ?_ GE213.out) | exact HB.out)⟩
    · rw [if_neg c5] at H
      have c5b0 : decide (30 < t217) = false := decide_eq_false c5
      clear c5
      have HC11 := Aside0.mk H
      clear H
      go_enter Try.func44, Try.ntmps44
      go_upto_block 0 with (first | ((with_reducible refine gate_dst (N := 1) rfl ?_); refine box_event ?hg (N := 1) ?hd (cs := #[.int .u8 a0_0, .int .u8 a0_1, .int .u8 a0_2, .int .u8 a0_3, .int .u8 a0_4]) (t := 57) ?hr ?_; (case hd => rfl); (case hg => rfl); (case hr => first | (go_simp; done) | (go_simp; rfl)); intro gb213 hg w12 hbox hb; have n0_ := Aside0.mk (below_step (by repeat (first | (with_reducible first | exact HB.out | apply below_alloc | apply pw_below_drewN | apply below_drew1) | exact HB.out)) hb); have n1_ := Aside0.mk (hbox); have n2_ := Aside0.mk ((by rw [hg]; exact (below_size (by repeat (first | (with_reducible first | exact HB.out | apply below_alloc | apply pw_below_drewN | apply below_drew1) | exact HB.out))) : w.heap.size ≤ gb213)); have n3_ := Aside0.mk ((by rw [hg]; exact (below_size (by repeat (first | (with_reducible first | exact HB.out | apply below_alloc | apply pw_below_drewN | apply below_drew1) | exact HB.out))) : w.heap.size ≤ gb213)); clear HB; have HB := n0_; have BK213 := n1_; have GW213 := n2_; have GE213 := n3_; clear n0_ n1_ n2_ n3_; clear hb hbox hg; have hcz13_0 : w12.cell? ⟨gb213, 0, none⟩ = some (.int .u8 a0_0) := (blk_cell BK213.out 0).trans rfl; have hcz13_1 : w12.cell? ⟨gb213, 1, none⟩ = some (.int .u8 a0_1) := (blk_cell BK213.out 1).trans rfl; have hcz13_2 : w12.cell? ⟨gb213, 2, none⟩ = some (.int .u8 a0_2) := (blk_cell BK213.out 2).trans rfl; have hcz13_3 : w12.cell? ⟨gb213, 3, none⟩ = some (.int .u8 a0_3) := (blk_cell BK213.out 3).trans rfl; have hcz13_4 : w12.cell? ⟨gb213, 4, none⟩ = some (.int .u8 a0_4) := (blk_cell BK213.out 4).trans rfl; have hfz13_0 := blk_frozen BK213.out 0; have hfz13_1 := blk_frozen BK213.out 1; have hfz13_2 := blk_frozen BK213.out 2; have hfz13_3 := blk_frozen BK213.out 3; have hfz13_4 := blk_frozen BK213.out 4) | (go_at_call 47; (with_reducible refine (five_Check.calls a0_0 a0_1 a0_2 a0_3 a0_4 t214 _ A2.out).mono ?_); rintro e w14 ⟨rfl, hb⟩; have n0_ := Aside0.mk (blk_below (g := gb213) (o := .cells #[.int .u8 a0_0, .int .u8 a0_1, .int .u8 a0_2, .int .u8 a0_3, .int .u8 a0_4] 57 (0, 0)) (by (with_reducible repeat (first | refine blk_drewN ?_ _ | refine blk_drew ?_ | refine blk_alloc ?_ _)); exact BK213.out) hb); have n1_ := Aside0.mk (below_step (by repeat (first | (with_reducible first | exact HB.out | apply below_alloc | apply pw_below_drewN | apply below_drew1 | refine below_set ?_ GE213.out) | exact HB.out)) hb); clear BK213; clear HB; have BK213 := n0_; have HB := n1_; clear n0_ n1_; (try clear hb); (try clear hb2); (try clear hk); (try clear hi); have hcz15_0 : w14.cell? ⟨gb213, 0, none⟩ = some (.int .u8 a0_0) := (blk_cell BK213.out 0).trans rfl; have hcz15_1 : w14.cell? ⟨gb213, 1, none⟩ = some (.int .u8 a0_1) := (blk_cell BK213.out 1).trans rfl; have hcz15_2 : w14.cell? ⟨gb213, 2, none⟩ = some (.int .u8 a0_2) := (blk_cell BK213.out 2).trans rfl; have hcz15_3 : w14.cell? ⟨gb213, 3, none⟩ = some (.int .u8 a0_3) := (blk_cell BK213.out 3).trans rfl; have hcz15_4 : w14.cell? ⟨gb213, 4, none⟩ = some (.int .u8 a0_4) := (blk_cell BK213.out 4).trans rfl; have hfz15_0 := blk_frozen BK213.out 0; have hfz15_1 := blk_frozen BK213.out 1; have hfz15_2 := blk_frozen BK213.out 2; have hfz15_3 := blk_frozen BK213.out 3; have hfz15_4 := blk_frozen BK213.out 4) | (go_at_call 94; (with_reducible refine (five_parts.calls a0_0 a0_1 a0_2 a0_3 a0_4 t215 t216 t217 _ A4.out).mono ?_); rintro e w16 ⟨rfl, hb⟩; have n0_ := Aside0.mk (blk_below (g := gb213) (o := .cells #[.int .u8 a0_0, .int .u8 a0_1, .int .u8 a0_2, .int .u8 a0_3, .int .u8 a0_4] 57 (0, 0)) (by (with_reducible repeat (first | refine blk_drewN ?_ _ | refine blk_drew ?_ | refine blk_alloc ?_ _)); exact BK213.out) hb); have n1_ := Aside0.mk (below_step (by repeat (first | (with_reducible first | exact HB.out | apply below_alloc | apply pw_below_drewN | apply below_drew1 | refine below_set ?_ GE213.out) | exact HB.out)) hb); clear BK213; clear HB; have BK213 := n0_; have HB := n1_; clear n0_ n1_; (try clear hb); (try clear hb2); (try clear hk); (try clear hi)))
      repeat (go_quiet (first | ((with_reducible refine gate_dst (N := 1) rfl ?_); refine box_event ?hg (N := 1) ?hd (cs := #[.int .u8 a0_0, .int .u8 a0_1, .int .u8 a0_2, .int .u8 a0_3, .int .u8 a0_4]) (t := 57) ?hr ?_; (case hd => rfl); (case hg => rfl); (case hr => first | (go_simp; done) | (go_simp; rfl)); intro gb213 hg w12 hbox hb; have n0_ := Aside0.mk (below_step (by repeat (first | (with_reducible first | exact HB.out | apply below_alloc | apply pw_below_drewN | apply below_drew1) | exact HB.out)) hb); have n1_ := Aside0.mk (hbox); have n2_ := Aside0.mk ((by rw [hg]; exact (below_size (by repeat (first | (with_reducible first | exact HB.out | apply below_alloc | apply pw_below_drewN | apply below_drew1) | exact HB.out))) : w.heap.size ≤ gb213)); have n3_ := Aside0.mk ((by rw [hg]; exact (below_size (by repeat (first | (with_reducible first | exact HB.out | apply below_alloc | apply pw_below_drewN | apply below_drew1) | exact HB.out))) : w.heap.size ≤ gb213)); clear HB; have HB := n0_; have BK213 := n1_; have GW213 := n2_; have GE213 := n3_; clear n0_ n1_ n2_ n3_; clear hb hbox hg; have hcz13_0 : w12.cell? ⟨gb213, 0, none⟩ = some (.int .u8 a0_0) := (blk_cell BK213.out 0).trans rfl; have hcz13_1 : w12.cell? ⟨gb213, 1, none⟩ = some (.int .u8 a0_1) := (blk_cell BK213.out 1).trans rfl; have hcz13_2 : w12.cell? ⟨gb213, 2, none⟩ = some (.int .u8 a0_2) := (blk_cell BK213.out 2).trans rfl; have hcz13_3 : w12.cell? ⟨gb213, 3, none⟩ = some (.int .u8 a0_3) := (blk_cell BK213.out 3).trans rfl; have hcz13_4 : w12.cell? ⟨gb213, 4, none⟩ = some (.int .u8 a0_4) := (blk_cell BK213.out 4).trans rfl; have hfz13_0 := blk_frozen BK213.out 0; have hfz13_1 := blk_frozen BK213.out 1; have hfz13_2 := blk_frozen BK213.out 2; have hfz13_3 := blk_frozen BK213.out 3; have hfz13_4 := blk_frozen BK213.out 4) | (go_at_call 47; (with_reducible refine (five_Check.calls a0_0 a0_1 a0_2 a0_3 a0_4 t214 _ A2.out).mono ?_); rintro e w14 ⟨rfl, hb⟩; have n0_ := Aside0.mk (blk_below (g := gb213) (o := .cells #[.int .u8 a0_0, .int .u8 a0_1, .int .u8 a0_2, .int .u8 a0_3, .int .u8 a0_4] 57 (0, 0)) (by (with_reducible repeat (first | refine blk_drewN ?_ _ | refine blk_drew ?_ | refine blk_alloc ?_ _)); exact BK213.out) hb); have n1_ := Aside0.mk (below_step (by repeat (first | (with_reducible first | exact HB.out | apply below_alloc | apply pw_below_drewN | apply below_drew1 | refine below_set ?_ GE213.out) | exact HB.out)) hb); clear BK213; clear HB; have BK213 := n0_; have HB := n1_; clear n0_ n1_; (try clear hb); (try clear hb2); (try clear hk); (try clear hi); have hcz15_0 : w14.cell? ⟨gb213, 0, none⟩ = some (.int .u8 a0_0) := (blk_cell BK213.out 0).trans rfl; have hcz15_1 : w14.cell? ⟨gb213, 1, none⟩ = some (.int .u8 a0_1) := (blk_cell BK213.out 1).trans rfl; have hcz15_2 : w14.cell? ⟨gb213, 2, none⟩ = some (.int .u8 a0_2) := (blk_cell BK213.out 2).trans rfl; have hcz15_3 : w14.cell? ⟨gb213, 3, none⟩ = some (.int .u8 a0_3) := (blk_cell BK213.out 3).trans rfl; have hcz15_4 : w14.cell? ⟨gb213, 4, none⟩ = some (.int .u8 a0_4) := (blk_cell BK213.out 4).trans rfl; have hfz15_0 := blk_frozen BK213.out 0; have hfz15_1 := blk_frozen BK213.out 1; have hfz15_2 := blk_frozen BK213.out 2; have hfz15_3 := blk_frozen BK213.out 3; have hfz15_4 := blk_frozen BK213.out 4) | (go_at_call 94; (with_reducible refine (five_parts.calls a0_0 a0_1 a0_2 a0_3 a0_4 t215 t216 t217 _ A4.out).mono ?_); rintro e w16 ⟨rfl, hb⟩; have n0_ := Aside0.mk (blk_below (g := gb213) (o := .cells #[.int .u8 a0_0, .int .u8 a0_1, .int .u8 a0_2, .int .u8 a0_3, .int .u8 a0_4] 57 (0, 0)) (by (with_reducible repeat (first | refine blk_drewN ?_ _ | refine blk_drew ?_ | refine blk_alloc ?_ _)); exact BK213.out) hb); have n1_ := Aside0.mk (below_step (by repeat (first | (with_reducible first | exact HB.out | apply below_alloc | apply pw_below_drewN | apply below_drew1 | refine below_set ?_ GE213.out) | exact HB.out)) hb); clear BK213; clear HB; have BK213 := n0_; have HB := n1_; clear n0_ n1_; (try clear hb); (try clear hb2); (try clear hk); (try clear hi))); go_upto_block 0 with (first | ((with_reducible refine gate_dst (N := 1) rfl ?_); refine box_event ?hg (N := 1) ?hd (cs := #[.int .u8 a0_0, .int .u8 a0_1, .int .u8 a0_2, .int .u8 a0_3, .int .u8 a0_4]) (t := 57) ?hr ?_; (case hd => rfl); (case hg => rfl); (case hr => first | (go_simp; done) | (go_simp; rfl)); intro gb213 hg w12 hbox hb; have n0_ := Aside0.mk (below_step (by repeat (first | (with_reducible first | exact HB.out | apply below_alloc | apply pw_below_drewN | apply below_drew1) | exact HB.out)) hb); have n1_ := Aside0.mk (hbox); have n2_ := Aside0.mk ((by rw [hg]; exact (below_size (by repeat (first | (with_reducible first | exact HB.out | apply below_alloc | apply pw_below_drewN | apply below_drew1) | exact HB.out))) : w.heap.size ≤ gb213)); have n3_ := Aside0.mk ((by rw [hg]; exact (below_size (by repeat (first | (with_reducible first | exact HB.out | apply below_alloc | apply pw_below_drewN | apply below_drew1) | exact HB.out))) : w.heap.size ≤ gb213)); clear HB; have HB := n0_; have BK213 := n1_; have GW213 := n2_; have GE213 := n3_; clear n0_ n1_ n2_ n3_; clear hb hbox hg; have hcz13_0 : w12.cell? ⟨gb213, 0, none⟩ = some (.int .u8 a0_0) := (blk_cell BK213.out 0).trans rfl; have hcz13_1 : w12.cell? ⟨gb213, 1, none⟩ = some (.int .u8 a0_1) := (blk_cell BK213.out 1).trans rfl; have hcz13_2 : w12.cell? ⟨gb213, 2, none⟩ = some (.int .u8 a0_2) := (blk_cell BK213.out 2).trans rfl; have hcz13_3 : w12.cell? ⟨gb213, 3, none⟩ = some (.int .u8 a0_3) := (blk_cell BK213.out 3).trans rfl; have hcz13_4 : w12.cell? ⟨gb213, 4, none⟩ = some (.int .u8 a0_4) := (blk_cell BK213.out 4).trans rfl; have hfz13_0 := blk_frozen BK213.out 0; have hfz13_1 := blk_frozen BK213.out 1; have hfz13_2 := blk_frozen BK213.out 2; have hfz13_3 := blk_frozen BK213.out 3; have hfz13_4 := blk_frozen BK213.out 4) | (go_at_call 47; (with_reducible refine (five_Check.calls a0_0 a0_1 a0_2 a0_3 a0_4 t214 _ A2.out).mono ?_); rintro e w14 ⟨rfl, hb⟩; have n0_ := Aside0.mk (blk_below (g := gb213) (o := .cells #[.int .u8 a0_0, .int .u8 a0_1, .int .u8 a0_2, .int .u8 a0_3, .int .u8 a0_4] 57 (0, 0)) (by (with_reducible repeat (first | refine blk_drewN ?_ _ | refine blk_drew ?_ | refine blk_alloc ?_ _)); exact BK213.out) hb); have n1_ := Aside0.mk (below_step (by repeat (first | (with_reducible first | exact HB.out | apply below_alloc | apply pw_below_drewN | apply below_drew1 | refine below_set ?_ GE213.out) | exact HB.out)) hb); clear BK213; clear HB; have BK213 := n0_; have HB := n1_; clear n0_ n1_; (try clear hb); (try clear hb2); (try clear hk); (try clear hi); have hcz15_0 : w14.cell? ⟨gb213, 0, none⟩ = some (.int .u8 a0_0) := (blk_cell BK213.out 0).trans rfl; have hcz15_1 : w14.cell? ⟨gb213, 1, none⟩ = some (.int .u8 a0_1) := (blk_cell BK213.out 1).trans rfl; have hcz15_2 : w14.cell? ⟨gb213, 2, none⟩ = some (.int .u8 a0_2) := (blk_cell BK213.out 2).trans rfl; have hcz15_3 : w14.cell? ⟨gb213, 3, none⟩ = some (.int .u8 a0_3) := (blk_cell BK213.out 3).trans rfl; have hcz15_4 : w14.cell? ⟨gb213, 4, none⟩ = some (.int .u8 a0_4) := (blk_cell BK213.out 4).trans rfl; have hfz15_0 := blk_frozen BK213.out 0; have hfz15_1 := blk_frozen BK213.out 1; have hfz15_2 := blk_frozen BK213.out 2; have hfz15_3 := blk_frozen BK213.out 3; have hfz15_4 := blk_frozen BK213.out 4) | (go_at_call 94; (with_reducible refine (five_parts.calls a0_0 a0_1 a0_2 a0_3 a0_4 t215 t216 t217 _ A4.out).mono ?_); rintro e w16 ⟨rfl, hb⟩; have n0_ := Aside0.mk (blk_below (g := gb213) (o := .cells #[.int .u8 a0_0, .int .u8 a0_1, .int .u8 a0_2, .int .u8 a0_3, .int .u8 a0_4] 57 (0, 0)) (by (with_reducible repeat (first | refine blk_drewN ?_ _ | refine blk_drew ?_ | refine blk_alloc ?_ _)); exact BK213.out) hb); have n1_ := Aside0.mk (below_step (by repeat (first | (with_reducible first | exact HB.out | apply below_alloc | apply pw_below_drewN | apply below_drew1 | refine below_set ?_ GE213.out) | exact HB.out)) hb); clear BK213; clear HB; have BK213 := n0_; have HB := n1_; clear n0_ n1_; (try clear hb); (try clear hb2); (try clear hk); (try clear hi))))
      (try simp only [Act.put, List.setIfInBounds_toArray, List.set_cons_zero, List.set_cons_succ])
      go_cut [8, 9] (fun v8 v9 wc => ∃ (kq : Nat) (x8_10 : Int) (x9_10 : Bool), v8 = .int .i64 x8_10 ∧ v9 = .bool x9_10 ∧ Aside0 (five_Int.j0 kq t215 x8_10 x9_10 = some (r1, r2)) ∧ Aside0 (kq ≤ k) ∧ Aside0 (wc.heap[gb213]? = some (.cells #[.int .u8 a0_0, .int .u8 a0_1, .int .u8 a0_2, .int .u8 a0_3, .int .u8 a0_4] 57 (0, 0))) ∧ Aside0 (Below w.heap.size w wc))
      case first =>
        have H := HC11.out
        clear HC11
        by_cases c17 : t217 ≥ 0
        · rw [if_pos c17] at H
          have c17b0 : decide (0 ≤ t217) = true := decide_eq_true c17
          clear c17
          (first | rw [c17b0] | (simp only [i64_w, i32_w]; rw [c17b0]) | skip)
          by_cases c18 : 0 ≤ t217
          · rw [if_pos c18] at H
            have c18b0 := eq_true c18
            have c18b1 : decide (0 ≤ t217) = true := decide_eq_true c18
            clear c18
            obtain ⟨ji19, hji19⟩ : ∃ j_ : Int, (shl .u64 t216 t217) = j_ := ⟨_, rfl⟩
            replace H : (five_Int.j0 k t215 (wrap64 (ji19)) false) = some (r1, r2) := by first | (rw [hji19] at H; exact H) | (simp only [hji19] at H ⊢; exact H)
            have hji19_ : (IntKind.u64.wrap (t216 * 2 ^ min t217.toNat 64)) = ji19 := hji19
            have hji19z : t217 ≤ 64 → (IntKind.u64.wrap (t216 * 2 ^ t217.toNat)) = ji19 := shl_small hji19
            have H' := Aside0.mk H
            clear H
            go_wp2
            repeat (go_quiet (fail); try go_wp2)
            go_meet
            case rel => exact ⟨_, (wrap64 (ji19)), (false), (by first | rfl | (simp; done) | (simp only [← hji19] <;> (first | rfl | simp)) | (simp [*]; done)), (by first | rfl | (simp; done) | (simp [*]; done)), H', ⟨by first | omega | exact Nat.le_refl _⟩, ⟨by (with_reducible repeat (first | refine blk_drewN ?_ _ | refine blk_drew ?_ | refine blk_alloc ?_ _)); exact BK213.out⟩, ⟨by repeat (first | (with_reducible first | exact HB.out | apply below_alloc | apply pw_below_drewN | apply below_drew1 | refine below_set ?_ GE213.out) | exact HB.out)⟩⟩
          · rw [if_neg c18] at H
            exact absurd H (by simp)
        · rw [if_neg c17] at H
          have c17b0 : decide (0 ≤ t217) = false := decide_eq_false c17
          clear c17
          (first | rw [c17b0] | (simp only [i64_w, i32_w]; rw [c17b0]) | skip)
          by_cases c20 : t217 > (-32)
          · rw [if_pos c20] at H
            have c20b0 : decide ((-32) < t217) = true := decide_eq_true c20
            clear c20
            obtain ⟨ji21, hji21⟩ : ∃ j_ : Int, (wrap64 (-t217)) = j_ := ⟨_, rfl⟩
            replace H : (if 0 ≤ (ji21) then (five_Int.j0 k t215 (wrap64 (shr .u64 t216 (ji21))) ((Go.bits .and .u64 t216 (IntKind.u64.wrap ((shl .u64 1 (ji21)) - 1))) != 0)) else (none)) = some (r1, r2) := by first | (rw [hji21] at H; exact H) | (simp only [hji21] at H ⊢; exact H)
            have hji21w : (IntKind.i64.wrap (-t217)) = ji21 := (i64_w _).trans hji21
            by_cases c22 : 0 ≤ (ji21)
            · rw [if_pos c22] at H
              have c22b0 := eq_true c22
              have c22b1 : decide (0 ≤ (ji21)) = true := decide_eq_true c22
              clear c22
              obtain ⟨ji23, hji23⟩ : ∃ j_ : Int, (shr .u64 t216 (ji21)) = j_ := ⟨_, rfl⟩
              replace H : (five_Int.j0 k t215 (wrap64 (ji23)) ((Go.bits .and .u64 t216 (IntKind.u64.wrap ((shl .u64 1 (ji21)) - 1))) != 0)) = some (r1, r2) := by first | (rw [hji23] at H; exact H) | (simp only [hji23] at H ⊢; exact H)
              have hji23_ : (t216 / 2 ^ min (ji21).toNat 64) = ji23 := hji23
              have hji23z : (ji21) ≤ 64 → (t216 / 2 ^ (ji21).toNat) = ji23 := shr_small hji23
              have c24b0 := eq_true (of_decide_eq_true (by first | (with_reducible assumption) | assumption) : 0 ≤ (ji21))
              obtain ⟨ji25, hji25⟩ : ∃ j_ : Int, (shl .u64 1 (ji21)) = j_ := ⟨_, rfl⟩
              replace H : (five_Int.j0 k t215 (wrap64 (ji23)) ((Go.bits .and .u64 t216 (IntKind.u64.wrap ((ji25) - 1))) != 0)) = some (r1, r2) := by first | (rw [hji25] at H; exact H) | (simp only [hji25] at H ⊢; exact H)
              have hji25_ : (IntKind.u64.wrap (1 * 2 ^ min (ji21).toNat 64)) = ji25 := hji25
              have hji25z : (ji21) ≤ 64 → (IntKind.u64.wrap (1 * 2 ^ (ji21).toNat)) = ji25 := shl_small hji25
              have hji25u : (IntKind.u64.wrap (2 ^ min (ji21).toNat 64)) = ji25 := by have h_ := hji25_; rw [Int.one_mul] at h_; exact h_
              have hji25v : (ji21) ≤ 64 → (IntKind.u64.wrap (2 ^ (ji21).toNat)) = ji25 := fun hle_ => by have h_ := hji25z hle_; rw [Int.one_mul] at h_; exact h_
              have H' := Aside0.mk H
              clear H
              go_wp2
              repeat (go_quiet (fail); try go_wp2)
              go_meet
              case rel => exact ⟨_, (wrap64 (ji23)), (((Go.bits .and .u64 t216 (IntKind.u64.wrap ((ji25) - 1))) != 0)), (by first | rfl | (simp; done) | (simp only [← hji23] <;> (first | rfl | simp)) | (simp [*]; done)), (by first | rfl | (simp; done) | (simp only [← hji25] <;> (first | rfl | simp)) | (simp [*]; done)), H', ⟨by first | omega | exact Nat.le_refl _⟩, ⟨by (with_reducible repeat (first | refine blk_drewN ?_ _ | refine blk_drew ?_ | refine blk_alloc ?_ _)); exact BK213.out⟩, ⟨by repeat (first | (with_reducible first | exact HB.out | apply below_alloc | apply pw_below_drewN | apply below_drew1 | refine below_set ?_ GE213.out) | exact HB.out)⟩⟩
            · rw [if_neg c22] at H
              exact absurd H (by simp)
          · rw [if_neg c20] at H
            have c20b0 : decide ((-32) < t217) = false := decide_eq_false c20
            clear c20
            have H' := Aside0.mk H
            clear H
            go_wp2
            repeat (go_quiet (fail); try go_wp2)
            go_meet
            case rel => exact ⟨_, (0), ((t216 != 0)), (by first | rfl | (simp; done) | (simp [*]; done)), (by first | rfl | (simp; done) | (simp [*]; done)), H', ⟨by first | omega | exact Nat.le_refl _⟩, ⟨by (with_reducible repeat (first | refine blk_drewN ?_ _ | refine blk_drew ?_ | refine blk_alloc ?_ _)); exact BK213.out⟩, ⟨by repeat (first | (with_reducible first | exact HB.out | apply below_alloc | apply pw_below_drewN | apply below_drew1 | refine below_set ?_ GE213.out) | exact HB.out)⟩⟩
      case rest =>
        clear HC11
        try clear c1
        try clear c2
        try clear p2
        try clear c3
        try clear c3b0
        try clear c3b1
        try clear c4
        try clear c5
        try clear c5b0
        try clear p6
        try clear c17
        try clear c17b0
        try clear c18
        try clear c18b0
        try clear c18b1
        try clear c20
        try clear c20b0
        try clear c22
        try clear c22b0
        try clear c22b1
        try clear c24
        try clear c24b0
        try clear hcz13_0
        try clear hcz13_1
        try clear hcz13_2
        try clear hcz13_3
        try clear hcz13_4
        try clear hcz15_0
        try clear hcz15_1
        try clear hcz15_2
        try clear hcz15_3
        try clear hcz15_4
        try clear hcz7_0
        try clear hcz7_1
        try clear hcz7_2
        try clear hcz7_3
        try clear hcz7_4
        try clear hcz9_0
        try clear hcz9_1
        try clear hcz9_2
        try clear hcz9_3
        try clear hcz9_4
        try clear hfz13_0
        try clear hfz13_1
        try clear hfz13_2
        try clear hfz13_3
        try clear hfz13_4
        try clear hfz15_0
        try clear hfz15_1
        try clear hfz15_2
        try clear hfz15_3
        try clear hfz15_4
        try clear hfz7_0
        try clear hfz7_1
        try clear hfz7_2
        try clear hfz7_3
        try clear hfz7_4
        try clear hfz9_0
        try clear hfz9_1
        try clear hfz9_2
        try clear hfz9_3
        try clear hfz9_4
        obtain ⟨kq, x8_10, x9_10, rfl, rfl, HA, HJ10, BK213, HB⟩ := hcut
        cases kq with
        | zero => exact absurd HA.out (by simp [five_Int.j0])
        | succ kj10 =>
          have H := HA.out
          clear HA
          simp only [five_Int.j0] at H
          by_cases c26 : t215 = true
          · subst c26
            have H1 : (if x9_10 = true then (some (wrap64 (-(wrap64 (x8_10 + 1))), 0)) else (some (wrap64 (-x8_10), 0))) = some (r1, r2) := by rw [if_pos rfl] at H; exact H
            clear H
            have H := H1
            clear H1
            by_cases c27 : x9_10 = true
            · subst c27
              have H1 : (some (wrap64 (-(wrap64 (x8_10 + 1))), 0)) = some (r1, r2) := by rw [if_pos rfl] at H; exact H
              clear H
              have H := H1
              clear H1
              simp only [Option.some.injEq, Prod.mk.injEq] at H
              obtain ⟨rfl, rfl⟩ := H
              go_wp2
              repeat (go_quiet (fail); try go_wp2)
              go_ret2
              exact ⟨by first | rfl | (simp [errW_none, errW_some] <;> rfl) | (simp [*, errW_none, errW_some] <;> rfl), by repeat (first | (with_reducible first | exact HB.out | apply below_alloc | apply pw_below_drewN | apply below_drew1 | refine below_set ?_ GE213.out) | exact HB.out)⟩
            · replace c27 := Bool.eq_false_iff.mpr c27
              subst c27
              have H1 : (some (wrap64 (-x8_10), 0)) = some (r1, r2) := by rw [if_neg (show ¬ (false = true) by decide)] at H; exact H
              clear H
              have H := H1
              clear H1
              simp only [Option.some.injEq, Prod.mk.injEq] at H
              obtain ⟨rfl, rfl⟩ := H
              go_wp2
              repeat (go_quiet (fail); try go_wp2)
              go_ret2
              exact ⟨by first | rfl | (simp [errW_none, errW_some] <;> rfl) | (simp [*, errW_none, errW_some] <;> rfl), by repeat (first | (with_reducible first | exact HB.out | apply below_alloc | apply pw_below_drewN | apply below_drew1 | refine below_set ?_ GE213.out) | exact HB.out)⟩
          · replace c26 := Bool.eq_false_iff.mpr c26
            subst c26
            have H1 : (some (x8_10, 0)) = some (r1, r2) := by rw [if_neg (show ¬ (false = true) by decide)] at H; exact H
            clear H
            have H := H1
            clear H1
            simp only [Option.some.injEq, Prod.mk.injEq] at H
            obtain ⟨rfl, rfl⟩ := H
            go_wp2
            repeat (go_quiet (fail); try go_wp2)
            go_ret2
            exact ⟨by first | rfl | (simp [errW_none, errW_some] <;> rfl) | (simp [*, errW_none, errW_some] <;> rfl), by repeat (first | (with_reducible first | exact HB.out | apply below_alloc | apply pw_below_drewN | apply below_drew1 | refine below_set ?_ GE213.out) | exact HB.out)⟩
  · rw [if_neg c3] at H
    have c3b0 : (t214 == 0) = false := beq_eq_false_iff_ne.mpr c3
    have c3b1 : (t214 != 0) = true := bne_iff_ne.mpr c3
    simp only [Option.some.injEq, Prod.mk.injEq] at H
    obtain ⟨rfl, rfl⟩ := H
    go_enter Try.func44, Try.ntmps44
    go_wp2_with (first | ((with_reducible refine gate_dst (N := 1) rfl ?_); refine box_event ?hg (N := 1) ?hd (cs := #[.int .u8 a0_0, .int .u8 a0_1, .int .u8 a0_2, .int .u8 a0_3, .int .u8 a0_4]) (t := 57) ?hr ?_; (case hd => rfl); (case hg => rfl); (case hr => first | (go_simp; done) | (go_simp; rfl)); intro gb213 hg w28 hbox hb; have n0_ := Aside0.mk (below_step (by repeat (first | (with_reducible first | exact HB.out | apply below_alloc | apply pw_below_drewN | apply below_drew1) | exact HB.out)) hb); have n1_ := Aside0.mk (hbox); have n2_ := Aside0.mk ((by rw [hg]; exact (below_size (by repeat (first | (with_reducible first | exact HB.out | apply below_alloc | apply pw_below_drewN | apply below_drew1) | exact HB.out))) : w.heap.size ≤ gb213)); have n3_ := Aside0.mk ((by rw [hg]; exact (below_size (by repeat (first | (with_reducible first | exact HB.out | apply below_alloc | apply pw_below_drewN | apply below_drew1) | exact HB.out))) : w.heap.size ≤ gb213)); clear HB; have HB := n0_; have BK213 := n1_; have GW213 := n2_; have GE213 := n3_; clear n0_ n1_ n2_ n3_; clear hb hbox hg; have hcz29_0 : w28.cell? ⟨gb213, 0, none⟩ = some (.int .u8 a0_0) := (blk_cell BK213.out 0).trans rfl; have hcz29_1 : w28.cell? ⟨gb213, 1, none⟩ = some (.int .u8 a0_1) := (blk_cell BK213.out 1).trans rfl; have hcz29_2 : w28.cell? ⟨gb213, 2, none⟩ = some (.int .u8 a0_2) := (blk_cell BK213.out 2).trans rfl; have hcz29_3 : w28.cell? ⟨gb213, 3, none⟩ = some (.int .u8 a0_3) := (blk_cell BK213.out 3).trans rfl; have hcz29_4 : w28.cell? ⟨gb213, 4, none⟩ = some (.int .u8 a0_4) := (blk_cell BK213.out 4).trans rfl; have hfz29_0 := blk_frozen BK213.out 0; have hfz29_1 := blk_frozen BK213.out 1; have hfz29_2 := blk_frozen BK213.out 2; have hfz29_3 := blk_frozen BK213.out 3; have hfz29_4 := blk_frozen BK213.out 4) | (go_at_call 47; (with_reducible refine (five_Check.calls a0_0 a0_1 a0_2 a0_3 a0_4 t214 _ A2.out).mono ?_); rintro e w30 ⟨rfl, hb⟩; have n0_ := Aside0.mk (blk_below (g := gb213) (o := .cells #[.int .u8 a0_0, .int .u8 a0_1, .int .u8 a0_2, .int .u8 a0_3, .int .u8 a0_4] 57 (0, 0)) (by (with_reducible repeat (first | refine blk_drewN ?_ _ | refine blk_drew ?_ | refine blk_alloc ?_ _)); exact BK213.out) hb); have n1_ := Aside0.mk (below_step (by repeat (first | (with_reducible first | exact HB.out | apply below_alloc | apply pw_below_drewN | apply below_drew1 | refine below_set ?_ GE213.out) | exact HB.out)) hb); clear BK213; clear HB; have BK213 := n0_; have HB := n1_; clear n0_ n1_; (try clear hb); (try clear hb2); (try clear hk); (try clear hi)))
    repeat (go_quiet (first | ((with_reducible refine gate_dst (N := 1) rfl ?_); refine box_event ?hg (N := 1) ?hd (cs := #[.int .u8 a0_0, .int .u8 a0_1, .int .u8 a0_2, .int .u8 a0_3, .int .u8 a0_4]) (t := 57) ?hr ?_; (case hd => rfl); (case hg => rfl); (case hr => first | (go_simp; done) | (go_simp; rfl)); intro gb213 hg w28 hbox hb; have n0_ := Aside0.mk (below_step (by repeat (first | (with_reducible first | exact HB.out | apply below_alloc | apply pw_below_drewN | apply below_drew1) | exact HB.out)) hb); have n1_ := Aside0.mk (hbox); have n2_ := Aside0.mk ((by rw [hg]; exact (below_size (by repeat (first | (with_reducible first | exact HB.out | apply below_alloc | apply pw_below_drewN | apply below_drew1) | exact HB.out))) : w.heap.size ≤ gb213)); have n3_ := Aside0.mk ((by rw [hg]; exact (below_size (by repeat (first | (with_reducible first | exact HB.out | apply below_alloc | apply pw_below_drewN | apply below_drew1) | exact HB.out))) : w.heap.size ≤ gb213)); clear HB; have HB := n0_; have BK213 := n1_; have GW213 := n2_; have GE213 := n3_; clear n0_ n1_ n2_ n3_; clear hb hbox hg; have hcz29_0 : w28.cell? ⟨gb213, 0, none⟩ = some (.int .u8 a0_0) := (blk_cell BK213.out 0).trans rfl; have hcz29_1 : w28.cell? ⟨gb213, 1, none⟩ = some (.int .u8 a0_1) := (blk_cell BK213.out 1).trans rfl; have hcz29_2 : w28.cell? ⟨gb213, 2, none⟩ = some (.int .u8 a0_2) := (blk_cell BK213.out 2).trans rfl; have hcz29_3 : w28.cell? ⟨gb213, 3, none⟩ = some (.int .u8 a0_3) := (blk_cell BK213.out 3).trans rfl; have hcz29_4 : w28.cell? ⟨gb213, 4, none⟩ = some (.int .u8 a0_4) := (blk_cell BK213.out 4).trans rfl; have hfz29_0 := blk_frozen BK213.out 0; have hfz29_1 := blk_frozen BK213.out 1; have hfz29_2 := blk_frozen BK213.out 2; have hfz29_3 := blk_frozen BK213.out 3; have hfz29_4 := blk_frozen BK213.out 4) | (go_at_call 47; (with_reducible refine (five_Check.calls a0_0 a0_1 a0_2 a0_3 a0_4 t214 _ A2.out).mono ?_); rintro e w30 ⟨rfl, hb⟩; have n0_ := Aside0.mk (blk_below (g := gb213) (o := .cells #[.int .u8 a0_0, .int .u8 a0_1, .int .u8 a0_2, .int .u8 a0_3, .int .u8 a0_4] 57 (0, 0)) (by (with_reducible repeat (first | refine blk_drewN ?_ _ | refine blk_drew ?_ | refine blk_alloc ?_ _)); exact BK213.out) hb); have n1_ := Aside0.mk (below_step (by repeat (first | (with_reducible first | exact HB.out | apply below_alloc | apply pw_below_drewN | apply below_drew1 | refine below_set ?_ GE213.out) | exact HB.out)) hb); clear BK213; clear HB; have BK213 := n0_; have HB := n1_; clear n0_ n1_; (try clear hb); (try clear hb2); (try clear hk); (try clear hi))); try go_wp2_with (first | ((with_reducible refine gate_dst (N := 1) rfl ?_); refine box_event ?hg (N := 1) ?hd (cs := #[.int .u8 a0_0, .int .u8 a0_1, .int .u8 a0_2, .int .u8 a0_3, .int .u8 a0_4]) (t := 57) ?hr ?_; (case hd => rfl); (case hg => rfl); (case hr => first | (go_simp; done) | (go_simp; rfl)); intro gb213 hg w28 hbox hb; have n0_ := Aside0.mk (below_step (by repeat (first | (with_reducible first | exact HB.out | apply below_alloc | apply pw_below_drewN | apply below_drew1) | exact HB.out)) hb); have n1_ := Aside0.mk (hbox); have n2_ := Aside0.mk ((by rw [hg]; exact (below_size (by repeat (first | (with_reducible first | exact HB.out | apply below_alloc | apply pw_below_drewN | apply below_drew1) | exact HB.out))) : w.heap.size ≤ gb213)); have n3_ := Aside0.mk ((by rw [hg]; exact (below_size (by repeat (first | (with_reducible first | exact HB.out | apply below_alloc | apply pw_below_drewN | apply below_drew1) | exact HB.out))) : w.heap.size ≤ gb213)); clear HB; have HB := n0_; have BK213 := n1_; have GW213 := n2_; have GE213 := n3_; clear n0_ n1_ n2_ n3_; clear hb hbox hg; have hcz29_0 : w28.cell? ⟨gb213, 0, none⟩ = some (.int .u8 a0_0) := (blk_cell BK213.out 0).trans rfl; have hcz29_1 : w28.cell? ⟨gb213, 1, none⟩ = some (.int .u8 a0_1) := (blk_cell BK213.out 1).trans rfl; have hcz29_2 : w28.cell? ⟨gb213, 2, none⟩ = some (.int .u8 a0_2) := (blk_cell BK213.out 2).trans rfl; have hcz29_3 : w28.cell? ⟨gb213, 3, none⟩ = some (.int .u8 a0_3) := (blk_cell BK213.out 3).trans rfl; have hcz29_4 : w28.cell? ⟨gb213, 4, none⟩ = some (.int .u8 a0_4) := (blk_cell BK213.out 4).trans rfl; have hfz29_0 := blk_frozen BK213.out 0; have hfz29_1 := blk_frozen BK213.out 1; have hfz29_2 := blk_frozen BK213.out 2; have hfz29_3 := blk_frozen BK213.out 3; have hfz29_4 := blk_frozen BK213.out 4) | (go_at_call 47; (with_reducible refine (five_Check.calls a0_0 a0_1 a0_2 a0_3 a0_4 t214 _ A2.out).mono ?_); rintro e w30 ⟨rfl, hb⟩; have n0_ := Aside0.mk (blk_below (g := gb213) (o := .cells #[.int .u8 a0_0, .int .u8 a0_1, .int .u8 a0_2, .int .u8 a0_3, .int .u8 a0_4] 57 (0, 0)) (by (with_reducible repeat (first | refine blk_drewN ?_ _ | refine blk_drew ?_ | refine blk_alloc ?_ _)); exact BK213.out) hb); have n1_ := Aside0.mk (below_step (by repeat (first | (with_reducible first | exact HB.out | apply below_alloc | apply pw_below_drewN | apply below_drew1 | refine below_set ?_ GE213.out) | exact HB.out)) hb); clear BK213; clear HB; have BK213 := n0_; have HB := n1_; clear n0_ n1_; (try clear hb); (try clear hb2); (try clear hk); (try clear hi))))
    go_ret2
    exact ⟨by first | rfl | (simp [errW_none, errW_some] <;> rfl) | (simp [*, errW_none, errW_some] <;> rfl), by repeat (first | (with_reducible first | exact HB.out | apply below_alloc | apply pw_below_drewN | apply below_drew1 | refine below_set ?_ GE213.out) | exact HB.out)⟩

/-! ### bakeref2_FiveErr: function 48 -/
def bakeref2_FiveErr.f (a0_0 : Int) (a0_1 : Int) (a0_2 : Int) (a0_3 : Int) (a0_4 : Int) : Option (Int) := if a0_0 = 0 then (if (strOfNums [a0_0, a0_1, a0_2, a0_3, a0_4]).toList = ([0, 0, 0, 0, 0] : List UInt8) then (some 0) else (some 3)) else (some 0)
theorem bakeref2_FiveErr.C_arr_ {ik : IntKind} {W : World} {g : Nat} {l : List Int} {o T : Nat} {fr : Nat × Nat} {cs : Array Value} (hb : W.heap[g]? = some (.cells cs T fr)) (hc : cs.toList.drop o = l.map (Value.int ik)) (hn : l.length ≤ 9223372036854775807) : Kd.C (Kd.int ik) W (some ⟨g, o, none⟩) l.length l := by
  refine ⟨rfl, hn, fun _ => ⟨_, rfl, fun j p hj => ⟨[.int ik p], rfl, rfl, fun i u hi => ?_⟩⟩⟩
  have hi0 : i = 0 := by
    rcases i with _ | i
    · rfl
    · simp at hi
  subst hi0
  have hu : Value.int ik p = u := by simpa using hi
  subst hu
  show W.cell? ((⟨g, o, none⟩ : Addr).add (j * 1 + 0)) = _
  rw [Go.WideShapes.add_plain, cell_of_row _ _ _ _ _ _ hb, Nat.mul_one, Nat.add_zero, ← Array.getElem?_toList, ← List.getElem?_drop, hc]
  simp [hj]
set_option maxHeartbeats 8000000 in
set_option maxRecDepth 100000 in
theorem bakeref2_FiveErr.calls (a0_0 : Int) (a0_1 : Int) (a0_2 : Int) (a0_3 : Int) (a0_4 : Int) (r : Int) (w : World) (h : bakeref2_FiveErr.f a0_0 a0_1 a0_2 a0_3 a0_4 = some r) :
    Calls Try.prog 48 #[.agg #[.int .u8 a0_0, .int .u8 a0_1, .int .u8 a0_2, .int .u8 a0_3, .int .u8 a0_4]] w fun e w' => e = .returned (.int .i64 r) ∧ Below w.heap.size w w' := by
  have hu57 := Try.underlying57
  have HB := Aside0.mk (Below.refl w.heap.size w)
  have H : (if a0_0 = 0 then (if (strOfNums [a0_0, a0_1, a0_2, a0_3, a0_4]).toList = ([0, 0, 0, 0, 0] : List UInt8) then (some 0) else (some 3)) else (some 0)) = some r := h
  clear h
  by_cases c2 : a0_0 = 0
  · rw [if_pos c2] at H
    have c2b0 : (a0_0 == 0) = true := beq_iff_eq.mpr c2
    have c2b1 : (a0_0 != 0) = false := bne_eq_false_iff_eq.mpr c2
    clear c2
    by_cases c3 : (strOfNums [a0_0, a0_1, a0_2, a0_3, a0_4]).toList = ([0, 0, 0, 0, 0] : List UInt8)
    · rw [if_pos c3] at H
      have c3b0 : ((strOfNums [a0_0, a0_1, a0_2, a0_3, a0_4]).toList == ([0, 0, 0, 0, 0] : List UInt8)) = true := beq_iff_eq.mpr c3
      have c3b1 : ((strOfNums [a0_0, a0_1, a0_2, a0_3, a0_4]).toList != ([0, 0, 0, 0, 0] : List UInt8)) = false := bne_eq_false_iff_eq.mpr c3
      clear c3
      obtain rfl := Option.some.inj H
      go_enter Try.func48, Try.ntmps48
      go_wp2_with (first | ((with_reducible refine gate_dst (N := 1) rfl ?_); refine box_event ?hg (N := 1) ?hd (cs := #[.int .u8 a0_0, .int .u8 a0_1, .int .u8 a0_2, .int .u8 a0_3, .int .u8 a0_4]) (t := 57) ?hr ?_; (case hd => rfl); (case hg => rfl); (case hr => first | (go_simp; done) | (go_simp; rfl)); intro gb218 hg w4 hbox hb; have n0_ := Aside0.mk (below_step (by repeat (first | (with_reducible first | exact HB.out | apply below_alloc | apply pw_below_drewN | apply below_drew1) | exact HB.out)) hb); have n1_ := Aside0.mk (hbox); have n2_ := Aside0.mk ((by rw [hg]; exact (below_size (by repeat (first | (with_reducible first | exact HB.out | apply below_alloc | apply pw_below_drewN | apply below_drew1) | exact HB.out))) : w.heap.size ≤ gb218)); have n3_ := Aside0.mk ((by rw [hg]; exact (below_size (by repeat (first | (with_reducible first | exact HB.out | apply below_alloc | apply pw_below_drewN | apply below_drew1) | exact HB.out))) : w.heap.size ≤ gb218)); clear HB; have HB := n0_; have BK218 := n1_; have GW218 := n2_; have GE218 := n3_; clear n0_ n1_ n2_ n3_; clear hb hbox hg; have hcz5_0 : w4.cell? ⟨gb218, 0, none⟩ = some (.int .u8 a0_0) := (blk_cell BK218.out 0).trans rfl; have hcz5_1 : w4.cell? ⟨gb218, 1, none⟩ = some (.int .u8 a0_1) := (blk_cell BK218.out 1).trans rfl; have hcz5_2 : w4.cell? ⟨gb218, 2, none⟩ = some (.int .u8 a0_2) := (blk_cell BK218.out 2).trans rfl; have hcz5_3 : w4.cell? ⟨gb218, 3, none⟩ = some (.int .u8 a0_3) := (blk_cell BK218.out 3).trans rfl; have hcz5_4 : w4.cell? ⟨gb218, 4, none⟩ = some (.int .u8 a0_4) := (blk_cell BK218.out 4).trans rfl; have hfz5_0 := blk_frozen BK218.out 0; have hfz5_1 := blk_frozen BK218.out 1; have hfz5_2 := blk_frozen BK218.out 2; have hfz5_3 := blk_frozen BK218.out 3; have hfz5_4 := blk_frozen BK218.out 4; have hcv6 := Kd.C_string (P := Try.prog) (A := some ⟨gb218, 0, none⟩) (n := 5) (c := 5) Try.underlying22 Try.underlying5 Try.underlying9 (bakeref2_FiveErr.C_arr_ (ik := .u8) (l := [a0_0, a0_1, a0_2, a0_3, a0_4]) (o := 0) (T := 57) (fr := (0, 0)) (by (with_reducible repeat (first | refine blk_drewN ?_ _ | refine blk_drew ?_ | refine blk_alloc ?_ _)); exact BK218.out) (by rfl) (by simp))))
      go_ret
      exact ⟨by first | rfl | (simp [errW_none, errW_some] <;> rfl) | (simp [*, errW_none, errW_some] <;> rfl), by repeat (first | (with_reducible first | exact HB.out | apply below_alloc | apply pw_below_drewN | apply below_drew1 | refine below_set ?_ GE218.out) | exact HB.out)⟩
    · rw [if_neg c3] at H
      have c3b0 : ((strOfNums [a0_0, a0_1, a0_2, a0_3, a0_4]).toList == ([0, 0, 0, 0, 0] : List UInt8)) = false := beq_eq_false_iff_ne.mpr c3
      have c3b1 : ((strOfNums [a0_0, a0_1, a0_2, a0_3, a0_4]).toList != ([0, 0, 0, 0, 0] : List UInt8)) = true := bne_iff_ne.mpr c3
      obtain rfl := Option.some.inj H
      go_enter Try.func48, Try.ntmps48
      go_wp2_with (first | ((with_reducible refine gate_dst (N := 1) rfl ?_); refine box_event ?hg (N := 1) ?hd (cs := #[.int .u8 a0_0, .int .u8 a0_1, .int .u8 a0_2, .int .u8 a0_3, .int .u8 a0_4]) (t := 57) ?hr ?_; (case hd => rfl); (case hg => rfl); (case hr => first | (go_simp; done) | (go_simp; rfl)); intro gb218 hg w7 hbox hb; have n0_ := Aside0.mk (below_step (by repeat (first | (with_reducible first | exact HB.out | apply below_alloc | apply pw_below_drewN | apply below_drew1) | exact HB.out)) hb); have n1_ := Aside0.mk (hbox); have n2_ := Aside0.mk ((by rw [hg]; exact (below_size (by repeat (first | (with_reducible first | exact HB.out | apply below_alloc | apply pw_below_drewN | apply below_drew1) | exact HB.out))) : w.heap.size ≤ gb218)); have n3_ := Aside0.mk ((by rw [hg]; exact (below_size (by repeat (first | (with_reducible first | exact HB.out | apply below_alloc | apply pw_below_drewN | apply below_drew1) | exact HB.out))) : w.heap.size ≤ gb218)); clear HB; have HB := n0_; have BK218 := n1_; have GW218 := n2_; have GE218 := n3_; clear n0_ n1_ n2_ n3_; clear hb hbox hg; have hcz8_0 : w7.cell? ⟨gb218, 0, none⟩ = some (.int .u8 a0_0) := (blk_cell BK218.out 0).trans rfl; have hcz8_1 : w7.cell? ⟨gb218, 1, none⟩ = some (.int .u8 a0_1) := (blk_cell BK218.out 1).trans rfl; have hcz8_2 : w7.cell? ⟨gb218, 2, none⟩ = some (.int .u8 a0_2) := (blk_cell BK218.out 2).trans rfl; have hcz8_3 : w7.cell? ⟨gb218, 3, none⟩ = some (.int .u8 a0_3) := (blk_cell BK218.out 3).trans rfl; have hcz8_4 : w7.cell? ⟨gb218, 4, none⟩ = some (.int .u8 a0_4) := (blk_cell BK218.out 4).trans rfl; have hfz8_0 := blk_frozen BK218.out 0; have hfz8_1 := blk_frozen BK218.out 1; have hfz8_2 := blk_frozen BK218.out 2; have hfz8_3 := blk_frozen BK218.out 3; have hfz8_4 := blk_frozen BK218.out 4; have hcv9 := Kd.C_string (P := Try.prog) (A := some ⟨gb218, 0, none⟩) (n := 5) (c := 5) Try.underlying22 Try.underlying5 Try.underlying9 (bakeref2_FiveErr.C_arr_ (ik := .u8) (l := [a0_0, a0_1, a0_2, a0_3, a0_4]) (o := 0) (T := 57) (fr := (0, 0)) (by (with_reducible repeat (first | refine blk_drewN ?_ _ | refine blk_drew ?_ | refine blk_alloc ?_ _)); exact BK218.out) (by rfl) (by simp))))
      go_ret
      exact ⟨by first | rfl | (simp [errW_none, errW_some] <;> rfl) | (simp [*, errW_none, errW_some] <;> rfl), by repeat (first | (with_reducible first | exact HB.out | apply below_alloc | apply pw_below_drewN | apply below_drew1 | refine below_set ?_ GE218.out) | exact HB.out)⟩
  · rw [if_neg c2] at H
    have c2b0 : (a0_0 == 0) = false := beq_eq_false_iff_ne.mpr c2
    have c2b1 : (a0_0 != 0) = true := bne_iff_ne.mpr c2
    obtain rfl := Option.some.inj H
    go_enter Try.func48, Try.ntmps48
    go_wp2_with (first | ((with_reducible refine gate_dst (N := 1) rfl ?_); refine box_event ?hg (N := 1) ?hd (cs := #[.int .u8 a0_0, .int .u8 a0_1, .int .u8 a0_2, .int .u8 a0_3, .int .u8 a0_4]) (t := 57) ?hr ?_; (case hd => rfl); (case hg => rfl); (case hr => first | (go_simp; done) | (go_simp; rfl)); intro gb218 hg w10 hbox hb; have n0_ := Aside0.mk (below_step (by repeat (first | (with_reducible first | exact HB.out | apply below_alloc | apply pw_below_drewN | apply below_drew1) | exact HB.out)) hb); have n1_ := Aside0.mk (hbox); have n2_ := Aside0.mk ((by rw [hg]; exact (below_size (by repeat (first | (with_reducible first | exact HB.out | apply below_alloc | apply pw_below_drewN | apply below_drew1) | exact HB.out))) : w.heap.size ≤ gb218)); have n3_ := Aside0.mk ((by rw [hg]; exact (below_size (by repeat (first | (with_reducible first | exact HB.out | apply below_alloc | apply pw_below_drewN | apply below_drew1) | exact HB.out))) : w.heap.size ≤ gb218)); clear HB; have HB := n0_; have BK218 := n1_; have GW218 := n2_; have GE218 := n3_; clear n0_ n1_ n2_ n3_; clear hb hbox hg; have hcz11_0 : w10.cell? ⟨gb218, 0, none⟩ = some (.int .u8 a0_0) := (blk_cell BK218.out 0).trans rfl; have hcz11_1 : w10.cell? ⟨gb218, 1, none⟩ = some (.int .u8 a0_1) := (blk_cell BK218.out 1).trans rfl; have hcz11_2 : w10.cell? ⟨gb218, 2, none⟩ = some (.int .u8 a0_2) := (blk_cell BK218.out 2).trans rfl; have hcz11_3 : w10.cell? ⟨gb218, 3, none⟩ = some (.int .u8 a0_3) := (blk_cell BK218.out 3).trans rfl; have hcz11_4 : w10.cell? ⟨gb218, 4, none⟩ = some (.int .u8 a0_4) := (blk_cell BK218.out 4).trans rfl; have hfz11_0 := blk_frozen BK218.out 0; have hfz11_1 := blk_frozen BK218.out 1; have hfz11_2 := blk_frozen BK218.out 2; have hfz11_3 := blk_frozen BK218.out 3; have hfz11_4 := blk_frozen BK218.out 4))
    go_ret
    exact ⟨by first | rfl | (simp [errW_none, errW_some] <;> rfl) | (simp [*, errW_none, errW_some] <;> rfl), by repeat (first | (with_reducible first | exact HB.out | apply below_alloc | apply pw_below_drewN | apply below_drew1 | refine below_set ?_ GE218.out) | exact HB.out)⟩

/-! ### bakeref2_split: function 95 -/
def bakeref2_split.f (k : Nat) (a0_0 : Int) (a0_1 : Int) (a0_2 : Int) (a0_3 : Int) (a0_4 : Int) : Option (Bool × List Int × Int) := if ((wrap64 ((wrap64 (256 * (wrap64 ((wrap64 (256 * (wrap64 ((wrap64 (256 * (wrap64 (wrap64 (a0_1))))) + (wrap64 (a0_2)))))) + (wrap64 (a0_3)))))) + (wrap64 (a0_4)))) ≥ 2147483648) then ((bakeref2_natOf.f k (IntKind.u64.wrap (wrap64 ((wrap64 (256 * (wrap64 ((wrap64 (256 * (wrap64 ((wrap64 (256 * (wrap64 (wrap64 (a0_1))))) + (wrap64 (a0_2)))))) + (wrap64 (a0_3)))))) + (wrap64 (a0_4)))))).bind fun t220 => (some (decide ((wrap64 ((wrap64 (256 * (wrap64 ((wrap64 (256 * (wrap64 ((wrap64 (256 * (wrap64 (wrap64 (a0_1))))) + (wrap64 (a0_2)))))) + (wrap64 (a0_3)))))) + (wrap64 (a0_4)))) ≥ 2147483648), t220, wrap64 ((wrap64 (a0_0)) - 160)))) else ((bakeref2_natOf.f k (IntKind.u64.wrap (wrap64 ((wrap64 ((wrap64 (256 * (wrap64 ((wrap64 (256 * (wrap64 ((wrap64 (256 * (wrap64 (wrap64 (a0_1))))) + (wrap64 (a0_2)))))) + (wrap64 (a0_3)))))) + (wrap64 (a0_4)))) + 2147483648)))).bind fun t223 => (some (decide ((wrap64 ((wrap64 (256 * (wrap64 ((wrap64 (256 * (wrap64 ((wrap64 (256 * (wrap64 (wrap64 (a0_1))))) + (wrap64 (a0_2)))))) + (wrap64 (a0_3)))))) + (wrap64 (a0_4)))) ≥ 2147483648), t223, wrap64 ((wrap64 (a0_0)) - 160))))
theorem bakeref2_split.mono : ∀ a0 a1 a2 a3 a4 k, LeO (bakeref2_split.f k a0 a1 a2 a3 a4) (bakeref2_split.f (k + 1) a0 a1 a2 a3 a4) := by
  intro a0 a1 a2 a3 a4 k
  unfold bakeref2_split.f
  repeat' first
      | (with_reducible exact bakeref2_natOf.mono _ _)
      | (with_reducible exact LeO.refl _)
      | (with_reducible exact LeO.none _)
      | (with_reducible refine LeO.ite ?_ ?_)
      | (with_reducible refine LeO.bind ?_ (fun _ => ?_))
      | exact bakeref2_natOf.mono _ _
      | exact LeO.none _
      | refine LeO.ite ?_ ?_
      | refine LeO.bind ?_ (fun _ => ?_)
def bakeref2_split.T10 : Bool × List (List Nat × List Nat) := (true, [([], []), ([], []), ([1], [1]), ([2], [2]), ([], []), ([4], [4]), ([5], [5]), ([6], [6]), ([0, 3, 0], [0]), ([3, 8, 0, 1, 2, 3, 8], [3]), ([7, 9, 0, 1, 2, 3, 4, 5, 6, 7, 8, 9], [7])])
def bakeref2_split.B10 : List Nat := [0, 0, 2, 6, 0, 16, 48, 112, 15, 271, 1023]
theorem bakeref2_split.tab10 : rtab .any (opsOf Try.f95 10) = bakeref2_split.T10 := by kernel_rfl
theorem bakeref2_split.bits10 : waitsOk bakeref2_split.T10.2 bakeref2_split.B10 = true := by kernel_rfl
set_option maxHeartbeats 8000000 in
set_option maxRecDepth 100000 in
theorem bakeref2_split.calls (k : Nat) (a0_0 : Int) (a0_1 : Int) (a0_2 : Int) (a0_3 : Int) (a0_4 : Int) (r1 : Bool) (r2 : List Int) (r3 : Int) (w : World) (h : bakeref2_split.f k a0_0 a0_1 a0_2 a0_3 a0_4 = some (r1, r2, r3)) :
    Calls Try.prog 95 #[.agg #[.int .u8 a0_0, .int .u8 a0_1, .int .u8 a0_2, .int .u8 a0_3, .int .u8 a0_4]] w fun e w' => ∃ v1_ : Value, e = .returned (.tuple #[.bool r1, v1_, .int .i64 r3]) ∧ Kd.R (Kd.int .i64) 3 w' w.heap.size (fun _ => True) v1_ r2 ∧ Below w.heap.size w w' := by
  have hu57 := Try.underlying57
  have HB := Aside0.mk (Below.refl w.heap.size w)
  have H : (if ((wrap64 ((wrap64 (256 * (wrap64 ((wrap64 (256 * (wrap64 ((wrap64 (256 * (wrap64 (wrap64 (a0_1))))) + (wrap64 (a0_2)))))) + (wrap64 (a0_3)))))) + (wrap64 (a0_4)))) ≥ 2147483648) then ((bakeref2_natOf.f k (IntKind.u64.wrap (wrap64 ((wrap64 (256 * (wrap64 ((wrap64 (256 * (wrap64 ((wrap64 (256 * (wrap64 (wrap64 (a0_1))))) + (wrap64 (a0_2)))))) + (wrap64 (a0_3)))))) + (wrap64 (a0_4)))))).bind fun t220 => (some (decide ((wrap64 ((wrap64 (256 * (wrap64 ((wrap64 (256 * (wrap64 ((wrap64 (256 * (wrap64 (wrap64 (a0_1))))) + (wrap64 (a0_2)))))) + (wrap64 (a0_3)))))) + (wrap64 (a0_4)))) ≥ 2147483648), t220, wrap64 ((wrap64 (a0_0)) - 160)))) else ((bakeref2_natOf.f k (IntKind.u64.wrap (wrap64 ((wrap64 ((wrap64 (256 * (wrap64 ((wrap64 (256 * (wrap64 ((wrap64 (256 * (wrap64 (wrap64 (a0_1))))) + (wrap64 (a0_2)))))) + (wrap64 (a0_3)))))) + (wrap64 (a0_4)))) + 2147483648)))).bind fun t223 => (some (decide ((wrap64 ((wrap64 (256 * (wrap64 ((wrap64 (256 * (wrap64 ((wrap64 (256 * (wrap64 (wrap64 (a0_1))))) + (wrap64 (a0_2)))))) + (wrap64 (a0_3)))))) + (wrap64 (a0_4)))) ≥ 2147483648), t223, wrap64 ((wrap64 (a0_0)) - 160))))) = some (r1, r2, r3) := h
  clear h
  by_cases c2 : ((wrap64 ((wrap64 (256 * (wrap64 ((wrap64 (256 * (wrap64 ((wrap64 (256 * (wrap64 (wrap64 (a0_1))))) + (wrap64 (a0_2)))))) + (wrap64 (a0_3)))))) + (wrap64 (a0_4)))) ≥ 2147483648)
  · rw [if_pos c2] at H
    have c2b0 : decide (2147483648 ≤ (wrap64 ((wrap64 (256 * (wrap64 ((wrap64 (256 * (wrap64 ((wrap64 (256 * (wrap64 (wrap64 (a0_1))))) + (wrap64 (a0_2)))))) + (wrap64 (a0_3)))))) + (wrap64 (a0_4))))) = true := decide_eq_true c2
    clear c2
    replace H := Option.bind_eq_some_iff.mp H
    obtain ⟨t220, A30, H⟩ := H
    replace H : (some (decide ((wrap64 ((wrap64 (256 * (wrap64 ((wrap64 (256 * (wrap64 ((wrap64 (256 * (wrap64 (wrap64 (a0_1))))) + (wrap64 (a0_2)))))) + (wrap64 (a0_3)))))) + (wrap64 (a0_4)))) ≥ 2147483648), t220, wrap64 ((wrap64 (a0_0)) - 160))) = some (r1, r2, r3) := H
    have A3 := Aside0.mk A30
    clear A30
    simp only [Option.some.injEq, Prod.mk.injEq] at H
    obtain ⟨rfl, rfl, rfl⟩ := H
    go_enter Try.func95, Try.ntmps95
    go_wp2_with (first | ((with_reducible refine gate_dst (N := 1) rfl ?_); refine box_event ?hg (N := 1) ?hd (cs := #[.int .u8 a0_0, .int .u8 a0_1, .int .u8 a0_2, .int .u8 a0_3, .int .u8 a0_4]) (t := 57) ?hr ?_; (case hd => rfl); (case hg => rfl); (case hr => first | (go_simp; done) | (go_simp; rfl)); intro gb219 hg w4 hbox hb; have n0_ := Aside0.mk (below_step (by repeat (first | (with_reducible first | exact HB.out | apply below_alloc | apply pw_below_drewN | apply below_drew1) | exact HB.out)) hb); have n1_ := Aside0.mk (hbox); have n2_ := Aside0.mk ((by rw [hg]; exact (below_size (by repeat (first | (with_reducible first | exact HB.out | apply below_alloc | apply pw_below_drewN | apply below_drew1) | exact HB.out))) : w.heap.size ≤ gb219)); have n3_ := Aside0.mk ((by rw [hg]; exact (below_size (by repeat (first | (with_reducible first | exact HB.out | apply below_alloc | apply pw_below_drewN | apply below_drew1) | exact HB.out))) : w.heap.size ≤ gb219)); clear HB; have HB := n0_; have BK219 := n1_; have GW219 := n2_; have GE219 := n3_; clear n0_ n1_ n2_ n3_; clear hb hbox hg; have hcz5_0 : w4.cell? ⟨gb219, 0, none⟩ = some (.int .u8 a0_0) := (blk_cell BK219.out 0).trans rfl; have hcz5_1 : w4.cell? ⟨gb219, 1, none⟩ = some (.int .u8 a0_1) := (blk_cell BK219.out 1).trans rfl; have hcz5_2 : w4.cell? ⟨gb219, 2, none⟩ = some (.int .u8 a0_2) := (blk_cell BK219.out 2).trans rfl; have hcz5_3 : w4.cell? ⟨gb219, 3, none⟩ = some (.int .u8 a0_3) := (blk_cell BK219.out 3).trans rfl; have hcz5_4 : w4.cell? ⟨gb219, 4, none⟩ = some (.int .u8 a0_4) := (blk_cell BK219.out 4).trans rfl; have hfz5_0 := blk_frozen BK219.out 0; have hfz5_1 := blk_frozen BK219.out 1; have hfz5_2 := blk_frozen BK219.out 2; have hfz5_3 := blk_frozen BK219.out 3; have hfz5_4 := blk_frozen BK219.out 4))
    have hca0 : w4.cell? ((⟨gb219, 1, none⟩ : Addr).add 0) = some (.int .u8 a0_1) := by rw [show ((⟨gb219, 1, none⟩ : Addr).add 0) = ⟨gb219, 1, none⟩ from rfl]; exact (blk_cell BK219.out 1).trans rfl
    have hca1 : w4.cell? ((⟨gb219, 1, none⟩ : Addr).add 1) = some (.int .u8 a0_2) := by rw [show ((⟨gb219, 1, none⟩ : Addr).add 1) = ⟨gb219, 2, none⟩ from rfl]; exact (blk_cell BK219.out 2).trans rfl
    have hca2 : w4.cell? ((⟨gb219, 1, none⟩ : Addr).add 2) = some (.int .u8 a0_3) := by rw [show ((⟨gb219, 1, none⟩ : Addr).add 2) = ⟨gb219, 3, none⟩ from rfl]; exact (blk_cell BK219.out 3).trans rfl
    have hca3 : w4.cell? ((⟨gb219, 1, none⟩ : Addr).add 3) = some (.int .u8 a0_4) := by rw [show ((⟨gb219, 1, none⟩ : Addr).add 3) = ⟨gb219, 4, none⟩ from rfl]; exact (blk_cell BK219.out 4).trans rfl
    go_loopg [5, 7, 11] 4 (fun kq v5 v7 v11 w' => ∃ (m_ j_ : Int), v5 = .int .i64 m_ ∧ v11 = .int .i64 j_ ∧ ((kq = 4 ∧ j_ = 0 ∧ m_ = 0) ∨ (kq = 3 ∧ j_ = 1 ∧ m_ = (wrap64 (wrap64 (a0_1)))) ∨ (kq = 2 ∧ j_ = 2 ∧ m_ = (wrap64 ((wrap64 (256 * (wrap64 (wrap64 (a0_1))))) + (wrap64 (a0_2))))) ∨ (kq = 1 ∧ j_ = 3 ∧ m_ = (wrap64 ((wrap64 (256 * (wrap64 ((wrap64 (256 * (wrap64 (wrap64 (a0_1))))) + (wrap64 (a0_2)))))) + (wrap64 (a0_3))))) ∨ (kq = 0 ∧ j_ = 4 ∧ m_ = (wrap64 ((wrap64 (256 * (wrap64 ((wrap64 (256 * (wrap64 ((wrap64 (256 * (wrap64 (wrap64 (a0_1))))) + (wrap64 (a0_2)))))) + (wrap64 (a0_3)))))) + (wrap64 (a0_4)))))) ∧ w4 = w')
    case atStart => exact ⟨0, 0, (by first | rfl | (simp; done)), (by first | rfl | (simp; done)), .inl ⟨rfl, rfl, rfl⟩, rfl⟩
    obtain ⟨m_, j_, rfl, rfl, hj_, hw_⟩ := hrel
    subst hw_
    rcases hj_ with ⟨rfl, rfl, rfl⟩ | ⟨rfl, rfl, rfl⟩ | ⟨rfl, rfl, rfl⟩ | ⟨rfl, rfl, rfl⟩ | ⟨rfl, rfl, rfl⟩
    · go_wp2
      go_roundg 3
      case measure => omega
      case rel => exact ⟨_, 1, rfl, (by first | rfl | (simp; done)), .inr (.inl ⟨rfl, rfl, by first | rfl | (simp; done)⟩), rfl⟩
    · go_wp2
      go_roundg 2
      case measure => omega
      case rel => exact ⟨_, 2, rfl, (by first | rfl | (simp; done)), .inr (.inr (.inl ⟨rfl, rfl, by first | rfl | (simp; done)⟩)), rfl⟩
    · go_wp2
      go_roundg 1
      case measure => omega
      case rel => exact ⟨_, 3, rfl, (by first | rfl | (simp; done)), .inr (.inr (.inr (.inl ⟨rfl, rfl, by first | rfl | (simp; done)⟩))), rfl⟩
    · go_wp2
      go_roundg 0
      case measure => omega
      case rel => exact ⟨_, 4, rfl, (by first | rfl | (simp; done)), .inr (.inr (.inr (.inr (⟨rfl, rfl, by first | rfl | (simp; done)⟩)))), rfl⟩
    go_wp2
    have n0_ := Aside0.mk (blk_drew BK219.out)
    have n1_ := Aside0.mk (below_drew1 HB.out)
    clear BK219
    clear HB
    have BK219 := n0_
    have HB := n1_
    clear n0_ n1_
    refine start_ (n := 11) (S := fun w' => w'.cell? ⟨gb219, 0, none⟩ = some (.int .u8 a0_0) ∧ w'.cell? ⟨gb219, 1, none⟩ = some (.int .u8 a0_1) ∧ w'.cell? ⟨gb219, 2, none⟩ = some (.int .u8 a0_2) ∧ w'.cell? ⟨gb219, 3, none⟩ = some (.int .u8 a0_3) ∧ w'.cell? ⟨gb219, 4, none⟩ = some (.int .u8 a0_4)) (ds := []) #[false, false, false, false, false, false, false, false, false, false, false] (by kernel_rfl) rfl rfl ⟨(blk_cell BK219.out 0).trans rfl, (blk_cell BK219.out 1).trans rfl, (blk_cell BK219.out 2).trans rfl, (blk_cell BK219.out 3).trans rfl, (blk_cell BK219.out 4).trans rfl⟩ (fun hHeld => ?_); refine with_tabW bakeref2_split.tab10 bakeref2_split.bits10 (fun HT_ HW_ => ?_)
    generalize w4.drew = w6 at BK219 HB hHeld ⊢
    refine pure_ (i := 0) (N := some 27) (v := ?_) (a' := ?_) #[true, false, false, false, false, false, false, false, false, false, false] rfl rfl (any_of HT_.out (by kernel_rfl)) (fun _ _ _ h => h) (Or.inl ⟨by rfl, ?_⟩) ?_ ?_
    rotate_left
    · intro w'
      go_simp
      with_reducible rfl
    rotate_left
    · simp only [Act.put, List.setIfInBounds_toArray, List.set_cons_zero, List.set_cons_succ, i64_w, i32_w]
      rfl
    refine pure_ (i := 1) (N := some 28) (v := ?_) (a' := ?_) #[true, true, false, false, false, false, false, false, false, false, false] rfl rfl (any_of HT_.out (by kernel_rfl)) (fun _ _ _ h => h) (Or.inl ⟨by rfl, ?_⟩) ?_ ?_
    rotate_left
    · intro w'
      go_simp
      with_reducible rfl
    rotate_left
    · simp only [Act.put, List.setIfInBounds_toArray, List.set_cons_zero, List.set_cons_succ, i64_w, i32_w]
      rfl
    refine pure_ (i := 2) (N := some 29) (v := ?_) (a' := ?_) #[true, true, true, false, false, false, false, false, false, false, false] rfl rfl (any_of HT_.out (by kernel_rfl)) (fun _ _ _ h => h) (Or.inl ⟨by rfl, ?_⟩) ?_ ?_
    rotate_left
    · intro w'
      go_simp
      with_reducible rfl
    rotate_left
    · simp only [Act.put, List.setIfInBounds_toArray, List.set_cons_zero, List.set_cons_succ, i64_w, i32_w]
      rfl
    refine pure_ (i := 4) (N := some 31) (v := ?_) (a' := ?_) #[true, true, true, false, true, false, false, false, false, false, false] rfl rfl (any_of HT_.out (by kernel_rfl)) (fun _ _ _ h => h) (Or.inl ⟨by rfl, ?_⟩) ?_ ?_
    rotate_left
    · intro w'
      go_simp
      with_reducible rfl
    rotate_left
    · simp only [Act.put, List.setIfInBounds_toArray, List.set_cons_zero, List.set_cons_succ, i64_w, i32_w]
      rfl
    refine take_ (i := 5) (N := some 32) (v := ?_) (a' := ?_) #[true, true, true, false, true, true, false, false, false, false, false] rfl rfl (take_ofW HT_.out HW_.out (by kernel_rfl)) (fun _ _ _ h => h) (Or.inl ⟨by rfl, ?_⟩) hHeld ?_ ?_
    rotate_left
    · rintro w' ⟨s0, s1, s2, s3, s4⟩
      go_simp
      with_reducible rfl
    rotate_left
    · simp only [Act.put, List.setIfInBounds_toArray, List.set_cons_zero, List.set_cons_succ, i64_w, i32_w]
      rfl
    refine pure_ (i := 6) (N := some 33) (v := ?_) (a' := ?_) #[true, true, true, false, true, true, true, false, false, false, false] rfl rfl (any_of HT_.out (by kernel_rfl)) (fun _ _ _ h => h) (Or.inl ⟨by rfl, ?_⟩) ?_ ?_
    rotate_left
    · intro w'
      go_simp
      with_reducible rfl
    rotate_left
    · simp only [Act.put, List.setIfInBounds_toArray, List.set_cons_zero, List.set_cons_succ, i64_w, i32_w]
      rfl
    refine pure_ (i := 7) (N := some 34) (v := ?_) (a' := ?_) #[true, true, true, false, true, true, true, true, false, false, false] rfl rfl (any_of HT_.out (by kernel_rfl)) (fun _ _ _ h => h) (Or.inl ⟨by rfl, ?_⟩) ?_ ?_
    rotate_left
    · intro w'
      go_simp
      with_reducible rfl
    rotate_left
    · simp only [Act.put, List.setIfInBounds_toArray, List.set_cons_zero, List.set_cons_succ, i64_w, i32_w]
      rfl
    refine one_ (i := 3) (N := some 30) #[true, true, true, true, true, true, true, true, false, false, false] rfl rfl (one_of HT_.out (by kernel_rfl)) (by decide) (fun K hK => ?_)
    refine goes_ Try.func93 (by kernel_rfl) rfl #[.int .u64 (IntKind.u64.wrap (wrap64 ((wrap64 (256 * (wrap64 ((wrap64 (256 * (wrap64 ((wrap64 (256 * (wrap64 (wrap64 (a0_1))))) + (wrap64 (a0_2)))))) + (wrap64 (a0_3)))))) + (wrap64 (a0_4)))))] (by rfl) rfl rfl (by (try simp only [List.map_toArray, List.map_cons, List.map_nil]); first | done | rfl | (simp only [List.length_drop, List.length_take]; rfl)) ?_
    with_reducible refine (bakeref2_natOf.calls k (IntKind.u64.wrap (wrap64 ((wrap64 (256 * (wrap64 ((wrap64 (256 * (wrap64 ((wrap64 (256 * (wrap64 (wrap64 (a0_1))))) + (wrap64 (a0_2)))))) + (wrap64 (a0_3)))))) + (wrap64 (a0_4))))) t220 _ A3.out).mono ?_
    rintro e w7 ⟨v221, rfl, ho0, hb⟩
    refine ⟨_, rfl, ?_⟩
    have n0_ := Aside0.mk (Kd.R_lower ho0 (below_size (by repeat (first | (with_reducible first | exact HB.out | apply below_alloc | apply pw_below_drewN | apply below_drew1 | refine below_set ?_ GE219.out) | exact HB.out))))
    have n1_ := Aside0.mk (blk_below (g := gb219) (o := .cells #[.int .u8 a0_0, .int .u8 a0_1, .int .u8 a0_2, .int .u8 a0_3, .int .u8 a0_4] 57 (0, 0)) (by (with_reducible repeat (first | refine blk_drewN ?_ _ | refine blk_drew ?_ | refine blk_alloc ?_ _)); exact BK219.out) hb)
    have n2_ := Aside0.mk (below_step (by repeat (first | (with_reducible first | exact HB.out | apply below_alloc | apply pw_below_drewN | apply below_drew1 | refine below_set ?_ GE219.out) | exact HB.out)) hb)
    clear BK219
    clear HB
    have HO222 := n0_
    have BK219 := n1_
    have HB := n2_
    clear n0_ n1_ n2_
    (try clear hb)
    (try clear hb2)
    (try clear hk)
    (try clear hi)
    (try clear ho0)
    refine hK.out _ _ ⟨(blk_cell BK219.out 0).trans rfl, (blk_cell BK219.out 1).trans rfl, (blk_cell BK219.out 2).trans rfl, (blk_cell BK219.out 3).trans rfl, (blk_cell BK219.out 4).trans rfl⟩ (fun hHeld => ?_)
    clear hK K
    refine norm_ (a' := ?_) ?_ ?_
    rotate_left
    · show Act.put _ (some 30) _ = _
      simp only [Act.put, List.setIfInBounds_toArray, List.set_cons_zero, List.set_cons_succ, i64_w, i32_w]
      rfl
    refine pure_ (i := 8) (N := some 2) (v := ?_) (a' := ?_) #[true, true, true, true, true, true, true, true, true, false, false] rfl rfl (any_of HT_.out (by kernel_rfl)) (fun _ _ _ h => h) (Or.inl ⟨by rfl, ?_⟩) ?_ ?_
    rotate_left
    · intro w'
      go_simp
      with_reducible rfl
    rotate_left
    · simp only [Act.put, List.setIfInBounds_toArray, List.set_cons_zero, List.set_cons_succ, i64_w, i32_w]
      rfl
    refine pure_ (i := 9) (N := some 3) (v := ?_) (a' := ?_) #[true, true, true, true, true, true, true, true, true, true, false] rfl rfl (any_of HT_.out (by kernel_rfl)) (fun _ _ _ h => h) (Or.inl ⟨by rfl, ?_⟩) ?_ ?_
    rotate_left
    · intro w'
      go_simp
      with_reducible rfl
    rotate_left
    · simp only [Act.put, List.setIfInBounds_toArray, List.set_cons_zero, List.set_cons_succ, i64_w, i32_w]
      rfl
    refine pure_ (i := 10) (N := some 4) (v := ?_) (a' := ?_) #[true, true, true, true, true, true, true, true, true, true, true] rfl rfl (any_of HT_.out (by kernel_rfl)) (fun _ _ _ h => h) (Or.inl ⟨by rfl, ?_⟩) ?_ ?_
    rotate_left
    · intro w'
      go_simp
      with_reducible rfl
    rotate_left
    · simp only [Act.put, List.setIfInBounds_toArray, List.set_cons_zero, List.set_cons_succ, i64_w, i32_w]
      rfl
    refine done_ (done_of HT_.out (by kernel_rfl)) ?_
    try go_wp2
    go_ret3
    exact ⟨_, by first | rfl | (simp [errW_none, errW_some] <;> rfl) | (simp [*, errW_none, errW_some] <;> rfl), by (with_reducible repeat (first | apply Kd.R_alloc | apply Kd.R_drewN | apply Kd.R_drew)); exact HO222.out, by repeat (first | (with_reducible first | exact HB.out | apply below_alloc | apply pw_below_drewN | apply below_drew1 | refine below_set ?_ GE219.out) | exact HB.out)⟩
  · rw [if_neg c2] at H
    have c2b0 : decide (2147483648 ≤ (wrap64 ((wrap64 (256 * (wrap64 ((wrap64 (256 * (wrap64 ((wrap64 (256 * (wrap64 (wrap64 (a0_1))))) + (wrap64 (a0_2)))))) + (wrap64 (a0_3)))))) + (wrap64 (a0_4))))) = false := decide_eq_false c2
    clear c2
    replace H := Option.bind_eq_some_iff.mp H
    obtain ⟨t223, A80, H⟩ := H
    replace H : (some (decide ((wrap64 ((wrap64 (256 * (wrap64 ((wrap64 (256 * (wrap64 ((wrap64 (256 * (wrap64 (wrap64 (a0_1))))) + (wrap64 (a0_2)))))) + (wrap64 (a0_3)))))) + (wrap64 (a0_4)))) ≥ 2147483648), t223, wrap64 ((wrap64 (a0_0)) - 160))) = some (r1, r2, r3) := H
    have A8 := Aside0.mk A80
    clear A80
    simp only [Option.some.injEq, Prod.mk.injEq] at H
    obtain ⟨rfl, rfl, rfl⟩ := H
    go_enter Try.func95, Try.ntmps95
    go_wp2_with (first | ((with_reducible refine gate_dst (N := 1) rfl ?_); refine box_event ?hg (N := 1) ?hd (cs := #[.int .u8 a0_0, .int .u8 a0_1, .int .u8 a0_2, .int .u8 a0_3, .int .u8 a0_4]) (t := 57) ?hr ?_; (case hd => rfl); (case hg => rfl); (case hr => first | (go_simp; done) | (go_simp; rfl)); intro gb219 hg w9 hbox hb; have n0_ := Aside0.mk (below_step (by repeat (first | (with_reducible first | exact HB.out | apply below_alloc | apply pw_below_drewN | apply below_drew1) | exact HB.out)) hb); have n1_ := Aside0.mk (hbox); have n2_ := Aside0.mk ((by rw [hg]; exact (below_size (by repeat (first | (with_reducible first | exact HB.out | apply below_alloc | apply pw_below_drewN | apply below_drew1) | exact HB.out))) : w.heap.size ≤ gb219)); have n3_ := Aside0.mk ((by rw [hg]; exact (below_size (by repeat (first | (with_reducible first | exact HB.out | apply below_alloc | apply pw_below_drewN | apply below_drew1) | exact HB.out))) : w.heap.size ≤ gb219)); clear HB; have HB := n0_; have BK219 := n1_; have GW219 := n2_; have GE219 := n3_; clear n0_ n1_ n2_ n3_; clear hb hbox hg; have hcz10_0 : w9.cell? ⟨gb219, 0, none⟩ = some (.int .u8 a0_0) := (blk_cell BK219.out 0).trans rfl; have hcz10_1 : w9.cell? ⟨gb219, 1, none⟩ = some (.int .u8 a0_1) := (blk_cell BK219.out 1).trans rfl; have hcz10_2 : w9.cell? ⟨gb219, 2, none⟩ = some (.int .u8 a0_2) := (blk_cell BK219.out 2).trans rfl; have hcz10_3 : w9.cell? ⟨gb219, 3, none⟩ = some (.int .u8 a0_3) := (blk_cell BK219.out 3).trans rfl; have hcz10_4 : w9.cell? ⟨gb219, 4, none⟩ = some (.int .u8 a0_4) := (blk_cell BK219.out 4).trans rfl; have hfz10_0 := blk_frozen BK219.out 0; have hfz10_1 := blk_frozen BK219.out 1; have hfz10_2 := blk_frozen BK219.out 2; have hfz10_3 := blk_frozen BK219.out 3; have hfz10_4 := blk_frozen BK219.out 4))
    have hca0 : w9.cell? ((⟨gb219, 1, none⟩ : Addr).add 0) = some (.int .u8 a0_1) := by rw [show ((⟨gb219, 1, none⟩ : Addr).add 0) = ⟨gb219, 1, none⟩ from rfl]; exact (blk_cell BK219.out 1).trans rfl
    have hca1 : w9.cell? ((⟨gb219, 1, none⟩ : Addr).add 1) = some (.int .u8 a0_2) := by rw [show ((⟨gb219, 1, none⟩ : Addr).add 1) = ⟨gb219, 2, none⟩ from rfl]; exact (blk_cell BK219.out 2).trans rfl
    have hca2 : w9.cell? ((⟨gb219, 1, none⟩ : Addr).add 2) = some (.int .u8 a0_3) := by rw [show ((⟨gb219, 1, none⟩ : Addr).add 2) = ⟨gb219, 3, none⟩ from rfl]; exact (blk_cell BK219.out 3).trans rfl
    have hca3 : w9.cell? ((⟨gb219, 1, none⟩ : Addr).add 3) = some (.int .u8 a0_4) := by rw [show ((⟨gb219, 1, none⟩ : Addr).add 3) = ⟨gb219, 4, none⟩ from rfl]; exact (blk_cell BK219.out 4).trans rfl
    go_loopg [5, 7, 11] 4 (fun kq v5 v7 v11 w' => ∃ (m_ j_ : Int), v5 = .int .i64 m_ ∧ v11 = .int .i64 j_ ∧ ((kq = 4 ∧ j_ = 0 ∧ m_ = 0) ∨ (kq = 3 ∧ j_ = 1 ∧ m_ = (wrap64 (wrap64 (a0_1)))) ∨ (kq = 2 ∧ j_ = 2 ∧ m_ = (wrap64 ((wrap64 (256 * (wrap64 (wrap64 (a0_1))))) + (wrap64 (a0_2))))) ∨ (kq = 1 ∧ j_ = 3 ∧ m_ = (wrap64 ((wrap64 (256 * (wrap64 ((wrap64 (256 * (wrap64 (wrap64 (a0_1))))) + (wrap64 (a0_2)))))) + (wrap64 (a0_3))))) ∨ (kq = 0 ∧ j_ = 4 ∧ m_ = (wrap64 ((wrap64 (256 * (wrap64 ((wrap64 (256 * (wrap64 ((wrap64 (256 * (wrap64 (wrap64 (a0_1))))) + (wrap64 (a0_2)))))) + (wrap64 (a0_3)))))) + (wrap64 (a0_4)))))) ∧ w9 = w')
    case atStart => exact ⟨0, 0, (by first | rfl | (simp; done)), (by first | rfl | (simp; done)), .inl ⟨rfl, rfl, rfl⟩, rfl⟩
    obtain ⟨m_, j_, rfl, rfl, hj_, hw_⟩ := hrel
    subst hw_
    rcases hj_ with ⟨rfl, rfl, rfl⟩ | ⟨rfl, rfl, rfl⟩ | ⟨rfl, rfl, rfl⟩ | ⟨rfl, rfl, rfl⟩ | ⟨rfl, rfl, rfl⟩
    · go_wp2
      go_roundg 3
      case measure => omega
      case rel => exact ⟨_, 1, rfl, (by first | rfl | (simp; done)), .inr (.inl ⟨rfl, rfl, by first | rfl | (simp; done)⟩), rfl⟩
    · go_wp2
      go_roundg 2
      case measure => omega
      case rel => exact ⟨_, 2, rfl, (by first | rfl | (simp; done)), .inr (.inr (.inl ⟨rfl, rfl, by first | rfl | (simp; done)⟩)), rfl⟩
    · go_wp2
      go_roundg 1
      case measure => omega
      case rel => exact ⟨_, 3, rfl, (by first | rfl | (simp; done)), .inr (.inr (.inr (.inl ⟨rfl, rfl, by first | rfl | (simp; done)⟩))), rfl⟩
    · go_wp2
      go_roundg 0
      case measure => omega
      case rel => exact ⟨_, 4, rfl, (by first | rfl | (simp; done)), .inr (.inr (.inr (.inr (⟨rfl, rfl, by first | rfl | (simp; done)⟩)))), rfl⟩
    go_wp2
    have n0_ := Aside0.mk (blk_drew BK219.out)
    have n1_ := Aside0.mk (below_drew1 HB.out)
    clear BK219
    clear HB
    have BK219 := n0_
    have HB := n1_
    clear n0_ n1_
    refine start_ (n := 11) (S := fun w' => w'.cell? ⟨gb219, 0, none⟩ = some (.int .u8 a0_0) ∧ w'.cell? ⟨gb219, 1, none⟩ = some (.int .u8 a0_1) ∧ w'.cell? ⟨gb219, 2, none⟩ = some (.int .u8 a0_2) ∧ w'.cell? ⟨gb219, 3, none⟩ = some (.int .u8 a0_3) ∧ w'.cell? ⟨gb219, 4, none⟩ = some (.int .u8 a0_4)) (ds := []) #[false, false, false, false, false, false, false, false, false, false, false] (by kernel_rfl) rfl rfl ⟨(blk_cell BK219.out 0).trans rfl, (blk_cell BK219.out 1).trans rfl, (blk_cell BK219.out 2).trans rfl, (blk_cell BK219.out 3).trans rfl, (blk_cell BK219.out 4).trans rfl⟩ (fun hHeld => ?_); refine with_tabW bakeref2_split.tab10 bakeref2_split.bits10 (fun HT_ HW_ => ?_)
    generalize w9.drew = w11 at BK219 HB hHeld ⊢
    refine pure_ (i := 0) (N := some 27) (v := ?_) (a' := ?_) #[true, false, false, false, false, false, false, false, false, false, false] rfl rfl (any_of HT_.out (by kernel_rfl)) (fun _ _ _ h => h) (Or.inl ⟨by rfl, ?_⟩) ?_ ?_
    rotate_left
    · intro w'
      go_simp
      with_reducible rfl
    rotate_left
    · simp only [Act.put, List.setIfInBounds_toArray, List.set_cons_zero, List.set_cons_succ, i64_w, i32_w]
      rfl
    refine pure_ (i := 1) (N := some 28) (v := ?_) (a' := ?_) #[true, true, false, false, false, false, false, false, false, false, false] rfl rfl (any_of HT_.out (by kernel_rfl)) (fun _ _ _ h => h) (Or.inl ⟨by rfl, ?_⟩) ?_ ?_
    rotate_left
    · intro w'
      go_simp
      with_reducible rfl
    rotate_left
    · simp only [Act.put, List.setIfInBounds_toArray, List.set_cons_zero, List.set_cons_succ, i64_w, i32_w]
      rfl
    refine pure_ (i := 2) (N := some 29) (v := ?_) (a' := ?_) #[true, true, true, false, false, false, false, false, false, false, false] rfl rfl (any_of HT_.out (by kernel_rfl)) (fun _ _ _ h => h) (Or.inl ⟨by rfl, ?_⟩) ?_ ?_
    rotate_left
    · intro w'
      go_simp
      with_reducible rfl
    rotate_left
    · simp only [Act.put, List.setIfInBounds_toArray, List.set_cons_zero, List.set_cons_succ, i64_w, i32_w]
      rfl
    refine pure_ (i := 4) (N := some 31) (v := ?_) (a' := ?_) #[true, true, true, false, true, false, false, false, false, false, false] rfl rfl (any_of HT_.out (by kernel_rfl)) (fun _ _ _ h => h) (Or.inl ⟨by rfl, ?_⟩) ?_ ?_
    rotate_left
    · intro w'
      go_simp
      with_reducible rfl
    rotate_left
    · simp only [Act.put, List.setIfInBounds_toArray, List.set_cons_zero, List.set_cons_succ, i64_w, i32_w]
      rfl
    refine take_ (i := 5) (N := some 32) (v := ?_) (a' := ?_) #[true, true, true, false, true, true, false, false, false, false, false] rfl rfl (take_ofW HT_.out HW_.out (by kernel_rfl)) (fun _ _ _ h => h) (Or.inl ⟨by rfl, ?_⟩) hHeld ?_ ?_
    rotate_left
    · rintro w' ⟨s0, s1, s2, s3, s4⟩
      go_simp
      with_reducible rfl
    rotate_left
    · simp only [Act.put, List.setIfInBounds_toArray, List.set_cons_zero, List.set_cons_succ, i64_w, i32_w]
      rfl
    refine pure_ (i := 6) (N := some 33) (v := ?_) (a' := ?_) #[true, true, true, false, true, true, true, false, false, false, false] rfl rfl (any_of HT_.out (by kernel_rfl)) (fun _ _ _ h => h) (Or.inl ⟨by rfl, ?_⟩) ?_ ?_
    rotate_left
    · intro w'
      go_simp
      with_reducible rfl
    rotate_left
    · simp only [Act.put, List.setIfInBounds_toArray, List.set_cons_zero, List.set_cons_succ, i64_w, i32_w]
      rfl
    refine pure_ (i := 7) (N := some 34) (v := ?_) (a' := ?_) #[true, true, true, false, true, true, true, true, false, false, false] rfl rfl (any_of HT_.out (by kernel_rfl)) (fun _ _ _ h => h) (Or.inl ⟨by rfl, ?_⟩) ?_ ?_
    rotate_left
    · intro w'
      go_simp
      with_reducible rfl
    rotate_left
    · simp only [Act.put, List.setIfInBounds_toArray, List.set_cons_zero, List.set_cons_succ, i64_w, i32_w]
      rfl
    refine one_ (i := 3) (N := some 30) #[true, true, true, true, true, true, true, true, false, false, false] rfl rfl (one_of HT_.out (by kernel_rfl)) (by decide) (fun K hK => ?_)
    refine goes_ Try.func93 (by kernel_rfl) rfl #[.int .u64 (IntKind.u64.wrap (wrap64 ((wrap64 ((wrap64 (256 * (wrap64 ((wrap64 (256 * (wrap64 ((wrap64 (256 * (wrap64 (wrap64 (a0_1))))) + (wrap64 (a0_2)))))) + (wrap64 (a0_3)))))) + (wrap64 (a0_4)))) + 2147483648)))] (by rfl) rfl rfl (by (try simp only [List.map_toArray, List.map_cons, List.map_nil]); first | done | rfl | (simp only [List.length_drop, List.length_take]; rfl)) ?_
    with_reducible refine (bakeref2_natOf.calls k (IntKind.u64.wrap (wrap64 ((wrap64 ((wrap64 (256 * (wrap64 ((wrap64 (256 * (wrap64 ((wrap64 (256 * (wrap64 (wrap64 (a0_1))))) + (wrap64 (a0_2)))))) + (wrap64 (a0_3)))))) + (wrap64 (a0_4)))) + 2147483648))) t223 _ A8.out).mono ?_
    rintro e w12 ⟨v224, rfl, ho0, hb⟩
    refine ⟨_, rfl, ?_⟩
    have n0_ := Aside0.mk (Kd.R_lower ho0 (below_size (by repeat (first | (with_reducible first | exact HB.out | apply below_alloc | apply pw_below_drewN | apply below_drew1 | refine below_set ?_ GE219.out) | exact HB.out))))
    have n1_ := Aside0.mk (blk_below (g := gb219) (o := .cells #[.int .u8 a0_0, .int .u8 a0_1, .int .u8 a0_2, .int .u8 a0_3, .int .u8 a0_4] 57 (0, 0)) (by (with_reducible repeat (first | refine blk_drewN ?_ _ | refine blk_drew ?_ | refine blk_alloc ?_ _)); exact BK219.out) hb)
    have n2_ := Aside0.mk (below_step (by repeat (first | (with_reducible first | exact HB.out | apply below_alloc | apply pw_below_drewN | apply below_drew1 | refine below_set ?_ GE219.out) | exact HB.out)) hb)
    clear BK219
    clear HB
    have HO225 := n0_
    have BK219 := n1_
    have HB := n2_
    clear n0_ n1_ n2_
    (try clear hb)
    (try clear hb2)
    (try clear hk)
    (try clear hi)
    (try clear ho0)
    refine hK.out _ _ ⟨(blk_cell BK219.out 0).trans rfl, (blk_cell BK219.out 1).trans rfl, (blk_cell BK219.out 2).trans rfl, (blk_cell BK219.out 3).trans rfl, (blk_cell BK219.out 4).trans rfl⟩ (fun hHeld => ?_)
    clear hK K
    refine norm_ (a' := ?_) ?_ ?_
    rotate_left
    · show Act.put _ (some 30) _ = _
      simp only [Act.put, List.setIfInBounds_toArray, List.set_cons_zero, List.set_cons_succ, i64_w, i32_w]
      rfl
    refine pure_ (i := 8) (N := some 2) (v := ?_) (a' := ?_) #[true, true, true, true, true, true, true, true, true, false, false] rfl rfl (any_of HT_.out (by kernel_rfl)) (fun _ _ _ h => h) (Or.inl ⟨by rfl, ?_⟩) ?_ ?_
    rotate_left
    · intro w'
      go_simp
      with_reducible rfl
    rotate_left
    · simp only [Act.put, List.setIfInBounds_toArray, List.set_cons_zero, List.set_cons_succ, i64_w, i32_w]
      rfl
    refine pure_ (i := 9) (N := some 3) (v := ?_) (a' := ?_) #[true, true, true, true, true, true, true, true, true, true, false] rfl rfl (any_of HT_.out (by kernel_rfl)) (fun _ _ _ h => h) (Or.inl ⟨by rfl, ?_⟩) ?_ ?_
    rotate_left
    · intro w'
      go_simp
      with_reducible rfl
    rotate_left
    · simp only [Act.put, List.setIfInBounds_toArray, List.set_cons_zero, List.set_cons_succ, i64_w, i32_w]
      rfl
    refine pure_ (i := 10) (N := some 4) (v := ?_) (a' := ?_) #[true, true, true, true, true, true, true, true, true, true, true] rfl rfl (any_of HT_.out (by kernel_rfl)) (fun _ _ _ h => h) (Or.inl ⟨by rfl, ?_⟩) ?_ ?_
    rotate_left
    · intro w'
      go_simp
      with_reducible rfl
    rotate_left
    · simp only [Act.put, List.setIfInBounds_toArray, List.set_cons_zero, List.set_cons_succ, i64_w, i32_w]
      rfl
    refine done_ (done_of HT_.out (by kernel_rfl)) ?_
    try go_wp2
    go_ret3
    exact ⟨_, by first | rfl | (simp [errW_none, errW_some] <;> rfl) | (simp [*, errW_none, errW_some] <;> rfl), by (with_reducible repeat (first | apply Kd.R_alloc | apply Kd.R_drewN | apply Kd.R_drew)); exact HO225.out, by repeat (first | (with_reducible first | exact HB.out | apply below_alloc | apply pw_below_drewN | apply below_drew1 | refine below_set ?_ GE219.out) | exact HB.out)⟩

end Go.Proofs.Ytgiodeiibmbhhaa.PFiveWholes
