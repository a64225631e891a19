-- Written by this session's own program (wip/mp, over the kit's print) for this claim; Lean checks it.
import Derived.Test.YtgiodeiibmbhhaaPWeakShowsx0
import Derived.Test.YtgiodeiibmbhhaaPWeakShowsx1
namespace Go.Proofs.Ytgiodeiibmbhhaa.PWeakShows
open Go.RowKit Go.Proofs.YtgiodeiibmbhhaaW.PrintWords Go.Proofs.YtgiodeiibmbhhaaW.PrintLast Go.Proofs.YtgiodeiibmbhhaaW.PrintMore
attribute [local go_sem] max2_int min2_int max_two min_two max_three min_three max_four min_four   -- for this text's walks alone
set_option linter.unusedVariables false
set_option linter.unusedSimpArgs false

/-! ### weak_Shows: function 20 -/
mutual
def weak_Shows.j0 : Nat → List (List (S107)) → Bool → Int → Int → Int → Option (Bool × Int)
  | 0, _, _, _, _, _ => none
  | k + 1, x1, x18, x120000, x120001, x120002 => if x18 = true then (some (false, 1)) else (if (x1.length : Int) = 0 then (some (false, 4)) else (if x120000 = 3 then (weak_Shows.l1 k ([] : List Int) false x1 (x1.length : Int) 0 x120000 x120001 x120002) else (weak_Shows.l0 k x1 (x1.length : Int) 0 x120000 x120001 x120002)))
def weak_Shows.l1 : Nat → List Int → Bool → List (List (S107)) → Int → Int → Int → Int → Int → Option (Bool × Int)
  | 0, _, _, _, _, _, _, _, _ => none
  | k + 1, x6, x7, x29, x30, x31, x120000, x120001, x120002 => if x31 < x30 then (if 0 ≤ x31 then (if x31 < (x29.length : Int) then ((weak_found.f k (rd_L5 x29 x31) x120002).bind fun t123 => (if (t123.length : Int) = 0 then (weak_Shows.l1 k x6 x7 x29 x30 (wrap64 (x31 + 1)) x120000 x120001 x120002) else (if x7 = true then (if 0 < (t123.length : Int) then ((slices_Equal_byte_byte.f k ((rd_T107 t123 0).f2) x6).bind fun t127 => (if t127 = true then (weak_Shows.l1 k x6 x7 x29 x30 (wrap64 (x31 + 1)) x120000 x120001 x120002) else (some (true, 0)))) else (none)) else (if 0 < (t123.length : Int) then (weak_Shows.l1 k ((rd_T107 t123 0).f2) true x29 x30 (wrap64 (x31 + 1)) x120000 x120001 x120002) else (none))))) else (none)) else (none)) else (some (false, 0))
def weak_Shows.l0 : Nat → List (List (S107)) → Int → Int → Int → Int → Int → Option (Bool × Int)
  | 0, _, _, _, _, _, _ => none
  | k + 1, x68, x75, x76, x120000, x120001, x120002 => if x76 < x75 then (if 0 ≤ x76 then (if x76 < (x68.length : Int) then ((weak_one.f k x120000 x120001 x120002 (rd_L5 x68 x76)).bind fun t121 => (if t121 = true then (weak_Shows.l0 k x68 x75 (wrap64 (x76 + 1)) x120000 x120001 x120002) else (some (!(decide (x76 ≥ 0)), 0)))) else (none)) else (none)) else (some (!(decide ((-1) ≥ 0)), 0))
end
def weak_Shows.f (k : Nat) (a0_0 : Int) (a0_1 : Int) (a0_2 : Int) (l1 : List (List (S107))) : Option (Bool × Int) := if a0_0 < 0 then (weak_Shows.j0 k l1 true a0_0 a0_1 a0_2) else (weak_Shows.j0 k l1 (decide (a0_0 ≥ 5)) a0_0 a0_1 a0_2)
theorem weak_Shows.mono_l : ∀ k, (∀ y0 y1 y2 y3 y4, LeO (weak_Shows.j0 k y0 y1 y2 y3 y4) (weak_Shows.j0 (k + 1) y0 y1 y2 y3 y4)) ∧ (∀ y0 y1 y2 y3 y4 y5 y6 y7, LeO (weak_Shows.l1 k y0 y1 y2 y3 y4 y5 y6 y7) (weak_Shows.l1 (k + 1) y0 y1 y2 y3 y4 y5 y6 y7)) ∧ (∀ y0 y1 y2 y3 y4 y5, LeO (weak_Shows.l0 k y0 y1 y2 y3 y4 y5) (weak_Shows.l0 (k + 1) y0 y1 y2 y3 y4 y5))
  | 0 => ⟨fun _ _ _ _ _ r h => by simp [weak_Shows.j0] at h, fun _ _ _ _ _ _ _ _ r h => by simp [weak_Shows.l1] at h, fun _ _ _ _ _ _ r h => by simp [weak_Shows.l0] at h⟩
  | k + 1 => by
    obtain ⟨ih0, ih1, ih2⟩ := weak_Shows.mono_l k
    refine ⟨?_, ?_, ?_⟩
    · intro y0 y1 y2 y3 y4
      unfold weak_Shows.j0
      repeat' first
      | (with_reducible exact ih0 _ _ _ _ _)
      | (with_reducible exact ih1 _ _ _ _ _ _ _ _)
      | (with_reducible exact ih2 _ _ _ _ _ _)
      | (with_reducible exact slices_Equal_byte_byte.mono _ _ _)
      | (with_reducible exact weak_found.mono _ _ _)
      | (with_reducible exact weak_one.mono _ _ _ _ _)
      | (with_reducible exact LeO.refl _)
      | (with_reducible exact LeO.none _)
      | (with_reducible refine LeO.ite ?_ ?_)
      | (with_reducible refine LeO.bind ?_ (fun _ => ?_))
      | exact ih0 _ _ _ _ _
      | exact ih1 _ _ _ _ _ _ _ _
      | exact ih2 _ _ _ _ _ _
      | exact slices_Equal_byte_byte.mono _ _ _
      | exact weak_found.mono _ _ _
      | exact weak_one.mono _ _ _ _ _
      | exact LeO.none _
      | refine LeO.ite ?_ ?_
      | refine LeO.bind ?_ (fun _ => ?_)
    · intro y0 y1 y2 y3 y4 y5 y6 y7
      unfold weak_Shows.l1
      repeat' first
      | (with_reducible exact ih0 _ _ _ _ _)
      | (with_reducible exact ih1 _ _ _ _ _ _ _ _)
      | (with_reducible exact ih2 _ _ _ _ _ _)
      | (with_reducible exact slices_Equal_byte_byte.mono _ _ _)
      | (with_reducible exact weak_found.mono _ _ _)
      | (with_reducible exact weak_one.mono _ _ _ _ _)
      | (with_reducible exact LeO.refl _)
      | (with_reducible exact LeO.none _)
      | (with_reducible refine LeO.ite ?_ ?_)
      | (with_reducible refine LeO.bind ?_ (fun _ => ?_))
      | exact ih0 _ _ _ _ _
      | exact ih1 _ _ _ _ _ _ _ _
      | exact ih2 _ _ _ _ _ _
      | exact slices_Equal_byte_byte.mono _ _ _
      | exact weak_found.mono _ _ _
      | exact weak_one.mono _ _ _ _ _
      | exact LeO.none _
      | refine LeO.ite ?_ ?_
      | refine LeO.bind ?_ (fun _ => ?_)
    · intro y0 y1 y2 y3 y4 y5
      unfold weak_Shows.l0
      repeat' first
      | (with_reducible exact ih0 _ _ _ _ _)
      | (with_reducible exact ih1 _ _ _ _ _ _ _ _)
      | (with_reducible exact ih2 _ _ _ _ _ _)
      | (with_reducible exact slices_Equal_byte_byte.mono _ _ _)
      | (with_reducible exact weak_found.mono _ _ _)
      | (with_reducible exact weak_one.mono _ _ _ _ _)
      | (with_reducible exact LeO.refl _)
      | (with_reducible exact LeO.none _)
      | (with_reducible refine LeO.ite ?_ ?_)
      | (with_reducible refine LeO.bind ?_ (fun _ => ?_))
      | exact ih0 _ _ _ _ _
      | exact ih1 _ _ _ _ _ _ _ _
      | exact ih2 _ _ _ _ _ _
      | exact slices_Equal_byte_byte.mono _ _ _
      | exact weak_found.mono _ _ _
      | exact weak_one.mono _ _ _ _ _
      | exact LeO.none _
      | refine LeO.ite ?_ ?_
      | refine LeO.bind ?_ (fun _ => ?_)
theorem weak_Shows.mono : ∀ a0 a1 a2 a3 k, LeO (weak_Shows.f k a0 a1 a2 a3) (weak_Shows.f (k + 1) a0 a1 a2 a3) := by
  intro a0 a1 a2 a3 k
  obtain ⟨ih0, ih1, ih2⟩ := weak_Shows.mono_l k
  unfold weak_Shows.f
  repeat' first
      | (with_reducible exact ih0 _ _ _ _ _)
      | (with_reducible exact ih1 _ _ _ _ _ _ _ _)
      | (with_reducible exact ih2 _ _ _ _ _ _)
      | (with_reducible exact slices_Equal_byte_byte.mono _ _ _)
      | (with_reducible exact weak_found.mono _ _ _)
      | (with_reducible exact weak_one.mono _ _ _ _ _)
      | (with_reducible exact LeO.refl _)
      | (with_reducible exact LeO.none _)
      | (with_reducible refine LeO.ite ?_ ?_)
      | (with_reducible refine LeO.bind ?_ (fun _ => ?_))
      | exact ih0 _ _ _ _ _
      | exact ih1 _ _ _ _ _ _ _ _
      | exact ih2 _ _ _ _ _ _
      | exact slices_Equal_byte_byte.mono _ _ _
      | exact weak_found.mono _ _ _
      | exact weak_one.mono _ _ _ _ _
      | exact LeO.none _
      | refine LeO.ite ?_ ?_
      | refine LeO.bind ?_ (fun _ => ?_)
set_option maxHeartbeats 8000000 in
set_option maxRecDepth 100000 in
theorem weak_Shows.calls (k : Nat) (a0_0 : Int) (a0_1 : Int) (a0_2 : Int) (A1 : Option Addr) (c1 : Nat) (l1 : List (List (S107))) (r1 : Bool) (r2 : Int) (w : World) (hr1 : Kd.C (Kd.slice 107 k107) w A1 l1.length l1) (hc1 : l1.length ≤ c1) (h : weak_Shows.f k a0_0 a0_1 a0_2 l1 = some (r1, r2)) :
    Calls Try.prog 20 #[.agg #[.int .i64 a0_0, .int .i64 a0_1, .int .i64 a0_2], .slice A1 l1.length c1] w fun e w' => e = .returned (.tuple #[.bool r1, .int .i64 r2]) ∧ Below w.heap.size w w' := by
  have hu29 := Try.underlying29
  have HR1 := Aside0.mk hr1
  have HC1 := Aside0.mk hc1
  clear hr1 hc1
  have HB := Aside0.mk (Below.refl w.heap.size w)
  have H : (if a0_0 < 0 then (weak_Shows.j0 k l1 true a0_0 a0_1 a0_2) else (weak_Shows.j0 k l1 (decide (a0_0 ≥ 5)) a0_0 a0_1 a0_2)) = some (r1, r2) := h
  clear h
  have HC3 := Aside0.mk H
  clear H
  go_enter Try.func20, Try.ntmps20
  go_upto_region 1 with (first | ((with_reducible refine gate_dst (N := 2) rfl ?_); refine box_event ?hg (N := 2) ?hd (cs := #[.int .i64 a0_0, .int .i64 a0_1, .int .i64 a0_2]) (t := 29) ?hr ?_; (case hd => rfl); (case hg => rfl); (case hr => first | (go_simp; done) | (go_simp; rfl)); intro gb119 hg w4 hbox hb; have n0_ := Aside0.mk (below_step (by repeat (first | (with_reducible first | exact HB.out | apply below_alloc | apply pw_below_drewN | apply below_drew1) | exact HB.out)) hb); have n1_ := Aside0.mk (hbox); have n2_ := Aside0.mk ((by rw [hg]; exact (below_size (by repeat (first | (with_reducible first | exact HB.out | apply below_alloc | apply pw_below_drewN | apply below_drew1) | exact HB.out))) : w.heap.size ≤ gb119)); have n3_ := Aside0.mk ((by rw [hg]; exact (below_size (by repeat (first | (with_reducible first | exact HB.out | apply below_alloc | apply pw_below_drewN | apply below_drew1) | exact HB.out))) : w.heap.size ≤ gb119)); clear HB; have HB := n0_; have BK119 := n1_; have GW119 := n2_; have GE119 := n3_; clear n0_ n1_ n2_ n3_; clear hb hbox hg))
  (try simp only [Act.put, List.setIfInBounds_toArray, List.set_cons_zero, List.set_cons_succ])
  go_cut [18] (fun v18 wc => ∃ (kq : Nat) (x18_2 : Bool), v18 = .bool x18_2 ∧ Aside0 (weak_Shows.j0 kq l1 x18_2 a0_0 a0_1 a0_2 = some (r1, r2)) ∧ Aside0 (kq ≤ k) ∧ Aside0 (wc.heap[gb119]? = some (.cells #[.int .i64 a0_0, .int .i64 a0_1, .int .i64 a0_2] 29 (0, 0))) ∧ Aside0 (Below w.heap.size w wc))
  case first =>
    have H := HC3.out
    clear HC3
    by_cases c5 : a0_0 < 0
    · rw [if_pos c5] at H
      have c5b0 : decide (a0_0 < 0) = true := decide_eq_true c5
      clear c5
      (first | rw [c5b0] | (simp only [i64_w, i32_w]; rw [c5b0]) | skip)
      have H' := Aside0.mk H
      clear H
      have hcz6_0 : w4.cell? ⟨gb119, 0, none⟩ = some (.int .i64 a0_0) := (blk_cell BK119.out 0).trans rfl
      have hcz6_1 : w4.cell? ⟨gb119, 1, none⟩ = some (.int .i64 a0_1) := (blk_cell BK119.out 1).trans rfl
      have hcz6_2 : w4.cell? ⟨gb119, 2, none⟩ = some (.int .i64 a0_2) := (blk_cell BK119.out 2).trans rfl
      have hfz6_0 := blk_frozen BK119.out 0
      have hfz6_1 := blk_frozen BK119.out 1
      have hfz6_2 := blk_frozen BK119.out 2
      go_wp2_with (first | (go_at_call 83; go_in) | (go_at_call 84; go_in) | (go_at_call 115; go_in) | ((try simp only [Exit.inBlock, Exit.then]); refine bodyPost_end (results_none rfl _ _ _) rfl ?_; simp only []; go_at_K) | ((try simp only [Exit.inBlock, Exit.then]); refine bodyPost_ret (results_none rfl _ _ _) rfl ?_; simp only []; go_at_K) | go_in)
      go_meet
      case rel => exact ⟨_, (true), (by first | rfl | (simp; done) | (simp [*]; done)), H', ⟨by first | omega | exact Nat.le_refl _⟩, ⟨by (with_reducible repeat (first | refine blk_drewN ?_ _ | refine blk_drew ?_ | refine blk_alloc ?_ _)); exact BK119.out⟩, ⟨by repeat (first | (with_reducible first | exact HB.out | apply below_alloc | apply pw_below_drewN | apply below_drew1 | refine below_set ?_ GE119.out) | exact HB.out)⟩⟩
    · rw [if_neg c5] at H
      have c5b0 : decide (a0_0 < 0) = false := decide_eq_false c5
      clear c5
      (first | rw [c5b0] | (simp only [i64_w, i32_w]; rw [c5b0]) | skip)
      have H' := Aside0.mk H
      clear H
      have hcz7_0 : w4.cell? ⟨gb119, 0, none⟩ = some (.int .i64 a0_0) := (blk_cell BK119.out 0).trans rfl
      have hcz7_1 : w4.cell? ⟨gb119, 1, none⟩ = some (.int .i64 a0_1) := (blk_cell BK119.out 1).trans rfl
      have hcz7_2 : w4.cell? ⟨gb119, 2, none⟩ = some (.int .i64 a0_2) := (blk_cell BK119.out 2).trans rfl
      have hfz7_0 := blk_frozen BK119.out 0
      have hfz7_1 := blk_frozen BK119.out 1
      have hfz7_2 := blk_frozen BK119.out 2
      go_wp2_with (first | (go_at_call 83; go_in) | (go_at_call 84; go_in) | (go_at_call 115; go_in) | ((try simp only [Exit.inBlock, Exit.then]); refine bodyPost_end (results_none rfl _ _ _) rfl ?_; simp only []; go_at_K) | ((try simp only [Exit.inBlock, Exit.then]); refine bodyPost_ret (results_none rfl _ _ _) rfl ?_; simp only []; go_at_K) | go_in)
      go_meet
      case rel => exact ⟨_, (decide (a0_0 ≥ 5)), (by first | rfl | (simp; done) | (simp [*]; done)), H', ⟨by first | omega | exact Nat.le_refl _⟩, ⟨by (with_reducible repeat (first | refine blk_drewN ?_ _ | refine blk_drew ?_ | refine blk_alloc ?_ _)); exact BK119.out⟩, ⟨by repeat (first | (with_reducible first | exact HB.out | apply below_alloc | apply pw_below_drewN | apply below_drew1 | refine below_set ?_ GE119.out) | exact HB.out)⟩⟩
  case rest =>
    clear HC3
    try clear c1
    try clear c2
    try clear p2
    try clear c5
    try clear c5b0
    try clear hcz6_0
    try clear hcz6_1
    try clear hcz6_2
    try clear hcz7_0
    try clear hcz7_1
    try clear hcz7_2
    try clear hfz6_0
    try clear hfz6_1
    try clear hfz6_2
    try clear hfz7_0
    try clear hfz7_1
    try clear hfz7_2
    obtain ⟨kq, x18_2, rfl, HA, HJ2, BK119, HB⟩ := hcut
    cases kq with
    | zero => exact absurd HA.out (by simp [weak_Shows.j0])
    | succ kj2 =>
      have H := HA.out
      clear HA
      simp only [weak_Shows.j0] at H
      by_cases c8 : x18_2 = true
      · subst c8
        have H1 : (some (false, 1)) = some (r1, r2) := by rw [if_pos rfl] at H; exact H
        clear H
        have H := H1
        clear H1
        simp only [Option.some.injEq, Prod.mk.injEq] at H
        obtain ⟨rfl, rfl⟩ := H
        go_wp2_with (first | (go_at_call 83; go_in) | (go_at_call 84; go_in) | (go_at_call 115; go_in) | ((try simp only [Exit.inBlock, Exit.then]); refine bodyPost_end (results_none rfl _ _ _) rfl ?_; simp only []; go_at_K) | ((try simp only [Exit.inBlock, Exit.then]); refine bodyPost_ret (results_none rfl _ _ _) rfl ?_; simp only []; go_at_K) | go_in)
        go_ret2
        exact ⟨by first | rfl | (simp [errW_none, errW_some] <;> rfl) | (simp [*, errW_none, errW_some] <;> rfl), by repeat (first | (with_reducible first | exact HB.out | apply below_alloc | apply pw_below_drewN | apply below_drew1 | refine below_set ?_ GE119.out) | exact HB.out)⟩
      · replace c8 := Bool.eq_false_iff.mpr c8
        subst c8
        have H1 : (if (l1.length : Int) = 0 then (some (false, 4)) else (if a0_0 = 3 then (weak_Shows.l1 kj2 ([] : List Int) false l1 (l1.length : Int) 0 a0_0 a0_1 a0_2) else (weak_Shows.l0 kj2 l1 (l1.length : Int) 0 a0_0 a0_1 a0_2))) = some (r1, r2) := by rw [if_neg (show ¬ (false = true) by decide)] at H; exact H
        clear H
        have H := H1
        clear H1
        by_cases c9 : (l1.length : Int) = 0
        · rw [if_pos c9] at H
          have c9b0 : ((l1.length : Int) == 0) = true := beq_iff_eq.mpr c9
          have c9b1 : ((l1.length : Int) != 0) = false := bne_eq_false_iff_eq.mpr c9
          clear c9
          simp only [Option.some.injEq, Prod.mk.injEq] at H
          obtain ⟨rfl, rfl⟩ := H
          go_wp2_with (first | (go_at_call 83; go_in) | (go_at_call 84; go_in) | (go_at_call 115; go_in) | ((try simp only [Exit.inBlock, Exit.then]); refine bodyPost_end (results_none rfl _ _ _) rfl ?_; simp only []; go_at_K) | ((try simp only [Exit.inBlock, Exit.then]); refine bodyPost_ret (results_none rfl _ _ _) rfl ?_; simp only []; go_at_K) | go_in)
          go_ret2
          exact ⟨by first | rfl | (simp [errW_none, errW_some] <;> rfl) | (simp [*, errW_none, errW_some] <;> rfl), by repeat (first | (with_reducible first | exact HB.out | apply below_alloc | apply pw_below_drewN | apply below_drew1 | refine below_set ?_ GE119.out) | exact HB.out)⟩
        · rw [if_neg c9] at H
          have c9b0 : ((l1.length : Int) == 0) = false := beq_eq_false_iff_ne.mpr c9
          have c9b1 : ((l1.length : Int) != 0) = true := bne_iff_ne.mpr c9
          have c9b2 : ¬ (l1 = []) := fun h_ => c9 (by rw [h_]; rfl)
          by_cases c10 : a0_0 = 3
          · rw [if_pos c10] at H
            have c10b0 : (a0_0 == 3) = true := beq_iff_eq.mpr c10
            have c10b1 : (a0_0 != 3) = false := bne_eq_false_iff_eq.mpr c10
            clear c10
            have H' := Aside0.mk H
            clear H
            have hcz11_0 : wc.cell? ⟨gb119, 0, none⟩ = some (.int .i64 a0_0) := (blk_cell BK119.out 0).trans rfl
            have hcz11_1 : wc.cell? ⟨gb119, 1, none⟩ = some (.int .i64 a0_1) := (blk_cell BK119.out 1).trans rfl
            have hcz11_2 : wc.cell? ⟨gb119, 2, none⟩ = some (.int .i64 a0_2) := (blk_cell BK119.out 2).trans rfl
            have hfz11_0 := blk_frozen BK119.out 0
            have hfz11_1 := blk_frozen BK119.out 1
            have hfz11_2 := blk_frozen BK119.out 2
            go_wp2_with (first | (go_at_call 83; go_in) | (go_at_call 84; go_in) | (go_at_call 115; go_in) | ((try simp only [Exit.inBlock, Exit.then]); refine bodyPost_end (results_none rfl _ _ _) rfl ?_; simp only []; go_at_K) | ((try simp only [Exit.inBlock, Exit.then]); refine bodyPost_ret (results_none rfl _ _ _) rfl ?_; simp only []; go_at_K) | go_in)
            go_loopg [6, 7, 31] kj2 (fun kq v6 v7 v31 w' => ∃ (x6_2 : List Int) (x7_2 : Bool) (x31_2 : Int), v7 = .bool x7_2 ∧ v31 = .int .i64 x31_2 ∧ Aside0 (weak_Shows.l1 kq x6_2 x7_2 l1 (l1.length : Int) x31_2 a0_0 a0_1 a0_2 = some (r1, r2)) ∧ Aside0 (kq ≤ kj2) ∧ Aside0 (Kd.V (Kd.int .u8) 5 w' w.heap.size (fun k_ => k_ ≠ gb119) v6 x6_2) ∧ Aside0 (w'.heap[gb119]? = some (.cells #[.int .i64 a0_0, .int .i64 a0_1, .int .i64 a0_2] 29 (0, 0))) ∧ Aside0 (Below w.heap.size w w'))
            case atStart => exact ⟨(([] : List Int)), (false), (0), (by first | rfl | (simp; done) | (simp [*]; done)), (by first | rfl | (simp; done) | (simp [*]; done)), H', ⟨Nat.le_refl _⟩, ⟨Kd.V_nil _ _ _ _ _⟩, ⟨by (with_reducible repeat (first | refine blk_drewN ?_ _ | refine blk_drew ?_ | refine blk_alloc ?_ _)); exact BK119.out⟩, ⟨by repeat (first | (with_reducible first | exact HB.out | apply below_alloc | apply pw_below_drewN | apply below_drew1 | refine below_set ?_ GE119.out) | exact HB.out)⟩⟩
            case round =>
              clear H'
              try clear c1
              try clear c2
              try clear p2
              try clear c5
              try clear c5b0
              try clear c8
              try clear c9
              try clear c9b0
              try clear c9b1
              try clear c9b2
              try clear c10
              try clear c10b0
              try clear c10b1
              try clear hcz11_0
              try clear hcz11_1
              try clear hcz11_2
              try clear hcz6_0
              try clear hcz6_1
              try clear hcz6_2
              try clear hcz7_0
              try clear hcz7_1
              try clear hcz7_2
              try clear hfz11_0
              try clear hfz11_1
              try clear hfz11_2
              try clear hfz6_0
              try clear hfz6_1
              try clear hfz6_2
              try clear hfz7_0
              try clear hfz7_1
              try clear hfz7_2
              try clear p2
              obtain ⟨x6_2, x7_2, x31_2, rfl, rfl, HA, HK2, HO_6, BK119, HB⟩ := hrel
              cases gk with
              | zero => exact absurd HA.out (by simp [weak_Shows.l1])
              | succ k2 =>
                have H := HA.out
                clear HA
                simp only [weak_Shows.l1] at H
                by_cases c12 : x31_2 < (l1.length : Int)
                · rw [if_pos c12] at H
                  have c12b0 : decide (x31_2 < (l1.length : Int)) = true := decide_eq_true c12
                  clear c12
                  by_cases c13 : 0 ≤ x31_2
                  · rw [if_pos c13] at H
                    have c13b0 : decide (0 ≤ x31_2) = true := decide_eq_true c13
                    clear c13
                    by_cases c14 : x31_2 < (l1.length : Int)
                    · rw [if_pos c14] at H
                      have c14b0 : decide (x31_2 < (l1.length : Int)) = true := decide_eq_true c14
                      clear c14
                      replace H := Option.bind_eq_some_iff.mp H
                      obtain ⟨t123, A150, H⟩ := H
                      replace H : (if (t123.length : Int) = 0 then (weak_Shows.l1 k2 x6_2 x7_2 l1 (l1.length : Int) (wrap64 (x31_2 + 1)) a0_0 a0_1 a0_2) else (if x7_2 = true then (if 0 < (t123.length : Int) then ((slices_Equal_byte_byte.f k2 ((rd_T107 t123 0).f2) x6_2).bind fun t127 => (if t127 = true then (weak_Shows.l1 k2 x6_2 x7_2 l1 (l1.length : Int) (wrap64 (x31_2 + 1)) a0_0 a0_1 a0_2) else (some (true, 0)))) else (none)) else (if 0 < (t123.length : Int) then (weak_Shows.l1 k2 ((rd_T107 t123 0).f2) true l1 (l1.length : Int) (wrap64 (x31_2 + 1)) a0_0 a0_1 a0_2) else (none)))) = some (r1, r2) := H
                      have A15 := Aside0.mk A150
                      clear A150
                      by_cases c16 : (t123.length : Int) = 0
                      · rw [if_pos c16] at H
                        have c16b0 : ((t123.length : Int) == 0) = true := beq_iff_eq.mpr c16
                        have c16b1 : ((t123.length : Int) != 0) = false := bne_eq_false_iff_eq.mpr c16
                        clear c16
                        have H' := Aside0.mk H
                        clear H
                        have p122 : 0 ≤ (x31_2 : Int) := of_decide_eq_true (by first | (with_reducible assumption) | assumption)
                        have q122 : x31_2 < (l1.length : Int) := of_decide_eq_true (by first | (with_reducible assumption) | assumption)
                        obtain ⟨ad122, A122_0, c122_0, e122, hx122_0, hl122_0, hi122_0⟩ := at_L5 HR1.out x31_2 p122 q122
                        cases e122
                        replace hx122_0 := (HB.out.cell (World.block_lt_of_cell? w _ hx122_0)).trans hx122_0
                        have HR122_0 := Aside0.mk hi122_0
                        have HC122_0 := Aside0.mk hl122_0
                        clear hi122_0 hl122_0
                        replace p122 := eq_true p122
                        replace q122 := eq_true q122
                        have hcz17_0 : wr.cell? ⟨gb119, 0, none⟩ = some (.int .i64 a0_0) := (blk_cell BK119.out 0).trans rfl
                        have hcz17_1 : wr.cell? ⟨gb119, 1, none⟩ = some (.int .i64 a0_1) := (blk_cell BK119.out 1).trans rfl
                        have hcz17_2 : wr.cell? ⟨gb119, 2, none⟩ = some (.int .i64 a0_2) := (blk_cell BK119.out 2).trans rfl
                        have hfz17_0 := blk_frozen BK119.out 0
                        have hfz17_1 := blk_frozen BK119.out 1
                        have hfz17_2 := blk_frozen BK119.out 2
                        go_wp2_with (first | ((with_reducible refine gate_callee (f := 86) rfl ?_); refine goesL_ (some 38) rfl rfl Try.func86 (by kernel_rfl) rfl #[.slice A122_0 (rd_L5 l1 x31_2).length c122_0, .int .i64 a0_2] rfl (by (try simp only [List.map_toArray, List.map_cons, List.map_nil]); first | done | rfl | (simp only [List.length_drop, List.length_take]; rfl)) ?_; (with_reducible refine (weak_found.calls k2 (fun k_ => k_ < w.heap.size) _ _ (rd_L5 l1 x31_2) a0_2 t123 _ ?side1 A15.out).mono ?_); (case side1 => exact Kd.V_mk HC122_0.out (Kd.F_below (Kd.C_F k107_heap HR122_0.out) (by repeat (first | (with_reducible first | exact HB.out | apply below_alloc | apply pw_below_drewN | apply below_drew1 | refine below_set ?_ GE119.out) | exact HB.out)))); rintro e w18 ⟨v124, rfl, ho0, hb⟩; refine ⟨_, rfl, ?_⟩; have n0_ := Aside0.mk (Kd.V_elder' (by (with_reducible repeat (first | apply Kd.V_alloc | apply Kd.V_drewN | apply Kd.V_drew)); exact HO_6.out) (Kd.N_base ho0) hb); have n1_ := Aside0.mk (Kd.N_lower (Kd.N_mono (ok' := fun k_ => k_ ≠ gb119) ho0 (fun k_ hk_ => Or.elim hk_ (fun hs_ => fun e_ => Nat.not_le.2 hs_ (by rw [e_]; exact GW119.out)) (fun hn_ => (Kd.freshB (g := gb119) (o := .cells #[.int .i64 a0_0, .int .i64 a0_1, .int .i64 a0_2] 29 (0, 0)) (by (with_reducible repeat (first | refine blk_drewN ?_ _ | refine blk_drew ?_ | refine blk_alloc ?_ _)); exact BK119.out) k_ hn_)))) (below_size (by repeat (first | (with_reducible first | exact HB.out | apply below_alloc | apply pw_below_drewN | apply below_drew1 | refine below_set ?_ GE119.out) | exact HB.out)))); have n2_ := Aside0.mk (blk_below (g := gb119) (o := .cells #[.int .i64 a0_0, .int .i64 a0_1, .int .i64 a0_2] 29 (0, 0)) (by (with_reducible repeat (first | refine blk_drewN ?_ _ | refine blk_drew ?_ | refine blk_alloc ?_ _)); exact BK119.out) hb); have n3_ := Aside0.mk (below_step (by repeat (first | (with_reducible first | exact HB.out | apply below_alloc | apply pw_below_drewN | apply below_drew1 | refine below_set ?_ GE119.out) | exact HB.out)) hb); clear HO_6; clear BK119; clear HB; have HO_6 := n0_; have HO125 := n1_; have BK119 := n2_; have HB := n3_; clear n0_ n1_ n2_ n3_; (try clear hb); (try clear hb2); (try clear hk); (try clear hi); (try clear ho0); obtain ⟨Ao19, co19, eo19⟩ := Kd.N_slice HO125.out; subst eo19) | (go_at_call 83; go_in) | (go_at_call 84; go_in) | (go_at_call 115; go_in) | ((try simp only [Exit.inBlock, Exit.then]); refine bodyPost_end (results_none rfl _ _ _) rfl ?_; simp only []; go_at_K) | ((try simp only [Exit.inBlock, Exit.then]); refine bodyPost_ret (results_none rfl _ _ _) rfl ?_; simp only []; go_at_K))
                        go_roundg k2
                        case measure => have := HJ2.out; have := HK2.out; omega
                        case rel => exact ⟨(x6_2), (x7_2), (wrap64 (x31_2 + 1)), (by first | rfl | (simp; done) | (simp [*]; done)), (by first | rfl | (simp; done) | (simp [*]; done)), H', ⟨by have := HJ2.out; have := HK2.out; omega⟩, ⟨by (with_reducible repeat (first | apply Kd.V_alloc | apply Kd.V_drewN | apply Kd.V_drew)); exact Kd.V_mono HO_6.out (fun _ hk => hk.1)⟩, ⟨by (with_reducible repeat (first | refine blk_drewN ?_ _ | refine blk_drew ?_ | refine blk_alloc ?_ _)); exact BK119.out⟩, ⟨by repeat (first | (with_reducible first | exact HB.out | apply below_alloc | apply pw_below_drewN | apply below_drew1 | refine below_set ?_ GE119.out) | exact HB.out)⟩⟩
                      · rw [if_neg c16] at H
                        have c16b0 : ((t123.length : Int) == 0) = false := beq_eq_false_iff_ne.mpr c16
                        have c16b1 : ((t123.length : Int) != 0) = true := bne_iff_ne.mpr c16
                        have c16b2 : ¬ (t123 = []) := fun h_ => c16 (by rw [h_]; rfl)
                        by_cases c20 : x7_2 = true
                        · subst c20
                          have H1 : (if 0 < (t123.length : Int) then ((slices_Equal_byte_byte.f k2 ((rd_T107 t123 0).f2) x6_2).bind fun t127 => (if t127 = true then (weak_Shows.l1 k2 x6_2 true l1 (l1.length : Int) (wrap64 (x31_2 + 1)) a0_0 a0_1 a0_2) else (some (true, 0)))) else (none)) = some (r1, r2) := by rw [if_pos rfl] at H; exact H
                          clear H
                          have H := H1
                          clear H1
                          by_cases c21 : 0 < (t123.length : Int)
                          · rw [if_pos c21] at H
                            have c21b0 : decide (0 < (t123.length : Int)) = true := decide_eq_true c21
                            have c21b1 : decide (0 < t123.length) = true := decide_eq_true (by omega)
                            clear c21
                            replace H := Option.bind_eq_some_iff.mp H
                            obtain ⟨t127, A220, H⟩ := H
                            replace H : (if t127 = true then (weak_Shows.l1 k2 x6_2 true l1 (l1.length : Int) (wrap64 (x31_2 + 1)) a0_0 a0_1 a0_2) else (some (true, 0))) = some (r1, r2) := H
                            have A22 := Aside0.mk A220
                            clear A220
                            by_cases c23 : t127 = true
                            · subst c23
                              have H1 : (weak_Shows.l1 k2 x6_2 true l1 (l1.length : Int) (wrap64 (x31_2 + 1)) a0_0 a0_1 a0_2) = some (r1, r2) := by rw [if_pos rfl] at H; exact H
                              clear H
                              have H := H1
                              clear H1
                              have H' := Aside0.mk H
                              clear H
                              have p122 : 0 ≤ (x31_2 : Int) := of_decide_eq_true (by first | (with_reducible assumption) | assumption)
                              have q122 : x31_2 < (l1.length : Int) := of_decide_eq_true (by first | (with_reducible assumption) | assumption)
                              obtain ⟨ad122, A122_0, c122_0, e122, hx122_0, hl122_0, hi122_0⟩ := at_L5 HR1.out x31_2 p122 q122
                              cases e122
                              replace hx122_0 := (HB.out.cell (World.block_lt_of_cell? w _ hx122_0)).trans hx122_0
                              have HR122_0 := Aside0.mk hi122_0
                              have HC122_0 := Aside0.mk hl122_0
                              clear hi122_0 hl122_0
                              replace p122 := eq_true p122
                              replace q122 := eq_true q122
                              have hcz24_0 : wr.cell? ⟨gb119, 0, none⟩ = some (.int .i64 a0_0) := (blk_cell BK119.out 0).trans rfl
                              have hcz24_1 : wr.cell? ⟨gb119, 1, none⟩ = some (.int .i64 a0_1) := (blk_cell BK119.out 1).trans rfl
                              have hcz24_2 : wr.cell? ⟨gb119, 2, none⟩ = some (.int .i64 a0_2) := (blk_cell BK119.out 2).trans rfl
                              have hfz24_0 := blk_frozen BK119.out 0
                              have hfz24_1 := blk_frozen BK119.out 1
                              have hfz24_2 := blk_frozen BK119.out 2
                              go_wp2_with (first | ((with_reducible refine gate_callee (f := 86) rfl ?_); refine goesL_ (some 38) rfl rfl Try.func86 (by kernel_rfl) rfl #[.slice A122_0 (rd_L5 l1 x31_2).length c122_0, .int .i64 a0_2] rfl (by (try simp only [List.map_toArray, List.map_cons, List.map_nil]); first | done | rfl | (simp only [List.length_drop, List.length_take]; rfl)) ?_; (with_reducible refine (weak_found.calls k2 (fun k_ => k_ < w.heap.size) _ _ (rd_L5 l1 x31_2) a0_2 t123 _ ?side1 A15.out).mono ?_); (case side1 => exact Kd.V_mk HC122_0.out (Kd.F_below (Kd.C_F k107_heap HR122_0.out) (by repeat (first | (with_reducible first | exact HB.out | apply below_alloc | apply pw_below_drewN | apply below_drew1 | refine below_set ?_ GE119.out) | exact HB.out)))); rintro e w25 ⟨v124, rfl, ho0, hb⟩; refine ⟨_, rfl, ?_⟩; have n0_ := Aside0.mk (Kd.V_elder' (by (with_reducible repeat (first | apply Kd.V_alloc | apply Kd.V_drewN | apply Kd.V_drew)); exact HO_6.out) (Kd.N_base ho0) hb); have n1_ := Aside0.mk (Kd.N_lower (Kd.N_mono (ok' := fun k_ => k_ ≠ gb119) ho0 (fun k_ hk_ => Or.elim hk_ (fun hs_ => fun e_ => Nat.not_le.2 hs_ (by rw [e_]; exact GW119.out)) (fun hn_ => (Kd.freshB (g := gb119) (o := .cells #[.int .i64 a0_0, .int .i64 a0_1, .int .i64 a0_2] 29 (0, 0)) (by (with_reducible repeat (first | refine blk_drewN ?_ _ | refine blk_drew ?_ | refine blk_alloc ?_ _)); exact BK119.out) k_ hn_)))) (below_size (by repeat (first | (with_reducible first | exact HB.out | apply below_alloc | apply pw_below_drewN | apply below_drew1 | refine below_set ?_ GE119.out) | exact HB.out)))); have n2_ := Aside0.mk (blk_below (g := gb119) (o := .cells #[.int .i64 a0_0, .int .i64 a0_1, .int .i64 a0_2] 29 (0, 0)) (by (with_reducible repeat (first | refine blk_drewN ?_ _ | refine blk_drew ?_ | refine blk_alloc ?_ _)); exact BK119.out) hb); have n3_ := Aside0.mk (below_step (by repeat (first | (with_reducible first | exact HB.out | apply below_alloc | apply pw_below_drewN | apply below_drew1 | refine below_set ?_ GE119.out) | exact HB.out)) hb); clear HO_6; clear BK119; clear HB; have HO_6 := n0_; have HO125 := n1_; have BK119 := n2_; have HB := n3_; clear n0_ n1_ n2_ n3_; (try clear hb); (try clear hb2); (try clear hk); (try clear hi); (try clear ho0); obtain ⟨Ao26, co26, eo26⟩ := Kd.N_slice HO125.out; subst eo26; have p126 : 0 ≤ (0 : Int) := (by omega); have q126 : 0 < (t123.length : Int) := of_decide_eq_true (by first | (with_reducible assumption) | assumption); obtain ⟨ad126, A126_2, c126_2, e126, hx126_0, hx126_1, hx126_2, hx126_3, hl126_2, hi126_2⟩ := at_T107 (Kd.N_reads' HO125.out).2.2 0 p126 q126; cases e126; obtain ⟨ce126, hce126, hMe126, hcc126⟩ := Kd.N_get HO125.out z107 0 p126 (by first | exact q126 | exact of_decide_eq_true (by first | (with_reducible assumption) | assumption) | (have e_ := (Kd.N_reads' HO125.out).1; omega)); obtain ⟨ua126_2, uc126_2, rfl, ul126_2, ge126_2⟩ := k107_openF hMe126; have hv126_2 := hcc126 2 _ rfl; rw [add_field _ _ 2 (by omega)] at hv126_2; replace hv126_2 := Option.some.inj (hv126_2.symm.trans hx126_2); injection hv126_2 with hva_ hvn_ hvc_; rw [hva_] at ge126_2; rw [hvc_] at ul126_2; have HL126_2 := Aside0.mk (show Kd.V (Kd.int .u8) 5 _ w.heap.size _ _ ((rd_T107 t123 0).f2) from Kd.V_mk ul126_2 ge126_2); clear hva_ hvn_ hvc_ ge126_2 ul126_2; clear hcc126 hce126; have qi126 : (0 < t123.length) = True := eq_true (by omega); (try rw [show ((0 : Int)).toNat = 0 from rfl] at hx126_0); (try rw [show 0 * 4 = 0 from rfl] at hx126_0); (try rw [Addr.add_zero'] at hx126_0); (try rw [show ((0 : Int)).toNat = 0 from rfl] at hx126_1); (try rw [show 0 * 4 = 0 from rfl] at hx126_1); (try rw [Addr.add_zero'] at hx126_1); (try rw [show ((0 : Int)).toNat = 0 from rfl] at hx126_2); (try rw [show 0 * 4 = 0 from rfl] at hx126_2); (try rw [Addr.add_zero'] at hx126_2); (try rw [show ((0 : Int)).toNat = 0 from rfl] at hx126_3); (try rw [show 0 * 4 = 0 from rfl] at hx126_3); (try rw [Addr.add_zero'] at hx126_3); have HR126_2 := Aside0.mk hi126_2; have HC126_2 := Aside0.mk hl126_2; clear hi126_2 hl126_2; replace p126 := eq_true p126; replace q126 := eq_true q126; obtain ⟨Ao27, co27, eo27⟩ := Kd.V_slice HO_6.out; subst eo27) | ((with_reducible refine gate_callee (f := 22) rfl ?_); refine goesL_ (some 56) rfl rfl Try.func22 (by kernel_rfl) rfl #[.slice A126_2 ((rd_T107 t123 0).f2).length c126_2, .slice Ao27 x6_2.length co27] rfl (by (try simp only [List.map_toArray, List.map_cons, List.map_nil]); first | done | rfl | (simp only [List.length_drop, List.length_take]; rfl)) ?_; (with_reducible refine (slices_Equal_byte_byte.calls k2 _ _ ((rd_T107 t123 0).f2) _ _ x6_2 true _ ?side1 ?side2 ?side3 ?side4 A22.out).mono ?_); (case side1 => repeat (first | exact (by repeat (first | (with_reducible exact HR126_2.out) | (with_reducible refine Kd.C_alloc ?_ _) | (with_reducible refine Kd.C_drewN ?_ _) | (with_reducible refine Kd.C_drew ?_) | exact HR126_2.out)) | (with_reducible refine Kd.C_alloc ?_ _) | (with_reducible refine Kd.C_drewN ?_ _) | (with_reducible refine Kd.C_drew ?_))); (case side2 => exact HC126_2.out); (case side3 => repeat (first | exact (Kd.V_reads' HO_6.out).2.2 | (with_reducible refine Kd.C_alloc ?_ _) | (with_reducible refine Kd.C_drewN ?_ _) | (with_reducible refine Kd.C_drew ?_))); (case side4 => exact (Kd.V_reads' HO_6.out).2.1); rintro e w' ⟨rfl, ⟨nd, rfl⟩⟩; refine ⟨_, rfl, ?_⟩) | (go_at_call 83; go_in) | (go_at_call 84; go_in) | (go_at_call 115; go_in) | ((try simp only [Exit.inBlock, Exit.then]); refine bodyPost_end (results_none rfl _ _ _) rfl ?_; simp only []; go_at_K) | ((try simp only [Exit.inBlock, Exit.then]); refine bodyPost_ret (results_none rfl _ _ _) rfl ?_; simp only []; go_at_K))
                              go_roundg k2
                              case measure => have := HJ2.out; have := HK2.out; omega
                              case rel => exact ⟨(x6_2), (true), (wrap64 (x31_2 + 1)), (by first | rfl | (simp; done) | (simp [*]; done)), (by first | rfl | (simp; done) | (simp [*]; done)), H', ⟨by have := HJ2.out; have := HK2.out; omega⟩, ⟨by (with_reducible repeat (first | apply Kd.V_alloc | apply Kd.V_drewN | apply Kd.V_drew)); exact Kd.V_mono HO_6.out (fun _ hk => hk.1)⟩, ⟨by (with_reducible repeat (first | refine blk_drewN ?_ _ | refine blk_drew ?_ | refine blk_alloc ?_ _)); exact BK119.out⟩, ⟨by repeat (first | (with_reducible first | exact HB.out | apply below_alloc | apply pw_below_drewN | apply below_drew1 | refine below_set ?_ GE119.out) | exact HB.out)⟩⟩
                            · replace c23 := Bool.eq_false_iff.mpr c23
                              subst c23
                              have H1 : (some (true, 0)) = some (r1, r2) := by rw [if_neg (show ¬ (false = true) by decide)] at H; exact H
                              clear H
                              have H := H1
                              clear H1
                              simp only [Option.some.injEq, Prod.mk.injEq] at H
                              obtain ⟨rfl, rfl⟩ := H
                              have p122 : 0 ≤ (x31_2 : Int) := of_decide_eq_true (by first | (with_reducible assumption) | assumption)
                              have q122 : x31_2 < (l1.length : Int) := of_decide_eq_true (by first | (with_reducible assumption) | assumption)
                              obtain ⟨ad122, A122_0, c122_0, e122, hx122_0, hl122_0, hi122_0⟩ := at_L5 HR1.out x31_2 p122 q122
                              cases e122
                              replace hx122_0 := (HB.out.cell (World.block_lt_of_cell? w _ hx122_0)).trans hx122_0
                              have HR122_0 := Aside0.mk hi122_0
                              have HC122_0 := Aside0.mk hl122_0
                              clear hi122_0 hl122_0
                              replace p122 := eq_true p122
                              replace q122 := eq_true q122
                              have hcz28_0 : wr.cell? ⟨gb119, 0, none⟩ = some (.int .i64 a0_0) := (blk_cell BK119.out 0).trans rfl
                              have hcz28_1 : wr.cell? ⟨gb119, 1, none⟩ = some (.int .i64 a0_1) := (blk_cell BK119.out 1).trans rfl
                              have hcz28_2 : wr.cell? ⟨gb119, 2, none⟩ = some (.int .i64 a0_2) := (blk_cell BK119.out 2).trans rfl
                              have hfz28_0 := blk_frozen BK119.out 0
                              have hfz28_1 := blk_frozen BK119.out 1
                              have hfz28_2 := blk_frozen BK119.out 2
                              go_wp2_with (first | ((with_reducible refine gate_callee (f := 86) rfl ?_); refine goesL_ (some 38) rfl rfl Try.func86 (by kernel_rfl) rfl #[.slice A122_0 (rd_L5 l1 x31_2).length c122_0, .int .i64 a0_2] rfl (by (try simp only [List.map_toArray, List.map_cons, List.map_nil]); first | done | rfl | (simp only [List.length_drop, List.length_take]; rfl)) ?_; (with_reducible refine (weak_found.calls k2 (fun k_ => k_ < w.heap.size) _ _ (rd_L5 l1 x31_2) a0_2 t123 _ ?side1 A15.out).mono ?_); (case side1 => exact Kd.V_mk HC122_0.out (Kd.F_below (Kd.C_F k107_heap HR122_0.out) (by repeat (first | (with_reducible first | exact HB.out | apply below_alloc | apply pw_below_drewN | apply below_drew1 | refine below_set ?_ GE119.out) | exact HB.out)))); rintro e w29 ⟨v124, rfl, ho0, hb⟩; refine ⟨_, rfl, ?_⟩; have n0_ := Aside0.mk (Kd.V_elder' (by (with_reducible repeat (first | apply Kd.V_alloc | apply Kd.V_drewN | apply Kd.V_drew)); exact HO_6.out) (Kd.N_base ho0) hb); have n1_ := Aside0.mk (Kd.N_lower (Kd.N_mono (ok' := fun k_ => k_ ≠ gb119) ho0 (fun k_ hk_ => Or.elim hk_ (fun hs_ => fun e_ => Nat.not_le.2 hs_ (by rw [e_]; exact GW119.out)) (fun hn_ => (Kd.freshB (g := gb119) (o := .cells #[.int .i64 a0_0, .int .i64 a0_1, .int .i64 a0_2] 29 (0, 0)) (by (with_reducible repeat (first | refine blk_drewN ?_ _ | refine blk_drew ?_ | refine blk_alloc ?_ _)); exact BK119.out) k_ hn_)))) (below_size (by repeat (first | (with_reducible first | exact HB.out | apply below_alloc | apply pw_below_drewN | apply below_drew1 | refine below_set ?_ GE119.out) | exact HB.out)))); have n2_ := Aside0.mk (blk_below (g := gb119) (o := .cells #[.int .i64 a0_0, .int .i64 a0_1, .int .i64 a0_2] 29 (0, 0)) (by (with_reducible repeat (first | refine blk_drewN ?_ _ | refine blk_drew ?_ | refine blk_alloc ?_ _)); exact BK119.out) hb); have n3_ := Aside0.mk (below_step (by repeat (first | (with_reducible first | exact HB.out | apply below_alloc | apply pw_below_drewN | apply below_drew1 | refine below_set ?_ GE119.out) | exact HB.out)) hb); clear HO_6; clear BK119; clear HB; have HO_6 := n0_; have HO125 := n1_; have BK119 := n2_; have HB := n3_; clear n0_ n1_ n2_ n3_; (try clear hb); (try clear hb2); (try clear hk); (try clear hi); (try clear ho0); obtain ⟨Ao30, co30, eo30⟩ := Kd.N_slice HO125.out; subst eo30; have p126 : 0 ≤ (0 : Int) := (by omega); have q126 : 0 < (t123.length : Int) := of_decide_eq_true (by first | (with_reducible assumption) | assumption); obtain ⟨ad126, A126_2, c126_2, e126, hx126_0, hx126_1, hx126_2, hx126_3, hl126_2, hi126_2⟩ := at_T107 (Kd.N_reads' HO125.out).2.2 0 p126 q126; cases e126; obtain ⟨ce126, hce126, hMe126, hcc126⟩ := Kd.N_get HO125.out z107 0 p126 (by first | exact q126 | exact of_decide_eq_true (by first | (with_reducible assumption) | assumption) | (have e_ := (Kd.N_reads' HO125.out).1; omega)); obtain ⟨ua126_2, uc126_2, rfl, ul126_2, ge126_2⟩ := k107_openF hMe126; have hv126_2 := hcc126 2 _ rfl; rw [add_field _ _ 2 (by omega)] at hv126_2; replace hv126_2 := Option.some.inj (hv126_2.symm.trans hx126_2); injection hv126_2 with hva_ hvn_ hvc_; rw [hva_] at ge126_2; rw [hvc_] at ul126_2; have HL126_2 := Aside0.mk (show Kd.V (Kd.int .u8) 5 _ w.heap.size _ _ ((rd_T107 t123 0).f2) from Kd.V_mk ul126_2 ge126_2); clear hva_ hvn_ hvc_ ge126_2 ul126_2; clear hcc126 hce126; have qi126 : (0 < t123.length) = True := eq_true (by omega); (try rw [show ((0 : Int)).toNat = 0 from rfl] at hx126_0); (try rw [show 0 * 4 = 0 from rfl] at hx126_0); (try rw [Addr.add_zero'] at hx126_0); (try rw [show ((0 : Int)).toNat = 0 from rfl] at hx126_1); (try rw [show 0 * 4 = 0 from rfl] at hx126_1); (try rw [Addr.add_zero'] at hx126_1); (try rw [show ((0 : Int)).toNat = 0 from rfl] at hx126_2); (try rw [show 0 * 4 = 0 from rfl] at hx126_2); (try rw [Addr.add_zero'] at hx126_2); (try rw [show ((0 : Int)).toNat = 0 from rfl] at hx126_3); (try rw [show 0 * 4 = 0 from rfl] at hx126_3); (try rw [Addr.add_zero'] at hx126_3); have HR126_2 := Aside0.mk hi126_2; have HC126_2 := Aside0.mk hl126_2; clear hi126_2 hl126_2; replace p126 := eq_true p126; replace q126 := eq_true q126; obtain ⟨Ao31, co31, eo31⟩ := Kd.V_slice HO_6.out; subst eo31) | ((with_reducible refine gate_callee (f := 22) rfl ?_); refine goesL_ (some 56) rfl rfl Try.func22 (by kernel_rfl) rfl #[.slice A126_2 ((rd_T107 t123 0).f2).length c126_2, .slice Ao31 x6_2.length co31] rfl (by (try simp only [List.map_toArray, List.map_cons, List.map_nil]); first | done | rfl | (simp only [List.length_drop, List.length_take]; rfl)) ?_; (with_reducible refine (slices_Equal_byte_byte.calls k2 _ _ ((rd_T107 t123 0).f2) _ _ x6_2 false _ ?side1 ?side2 ?side3 ?side4 A22.out).mono ?_); (case side1 => repeat (first | exact (by repeat (first | (with_reducible exact HR126_2.out) | (with_reducible refine Kd.C_alloc ?_ _) | (with_reducible refine Kd.C_drewN ?_ _) | (with_reducible refine Kd.C_drew ?_) | exact HR126_2.out)) | (with_reducible refine Kd.C_alloc ?_ _) | (with_reducible refine Kd.C_drewN ?_ _) | (with_reducible refine Kd.C_drew ?_))); (case side2 => exact HC126_2.out); (case side3 => repeat (first | exact (Kd.V_reads' HO_6.out).2.2 | (with_reducible refine Kd.C_alloc ?_ _) | (with_reducible refine Kd.C_drewN ?_ _) | (with_reducible refine Kd.C_drew ?_))); (case side4 => exact (Kd.V_reads' HO_6.out).2.1); rintro e w' ⟨rfl, ⟨nd, rfl⟩⟩; refine ⟨_, rfl, ?_⟩) | (go_at_call 83; go_in) | (go_at_call 84; go_in) | (go_at_call 115; go_in) | ((try simp only [Exit.inBlock, Exit.then]); refine bodyPost_end (results_none rfl _ _ _) rfl ?_; simp only []; go_at_K) | ((try simp only [Exit.inBlock, Exit.then]); refine bodyPost_ret (results_none rfl _ _ _) rfl ?_; simp only []; go_at_K))
                              go_ret2
                              exact ⟨by first | rfl | (simp [errW_none, errW_some] <;> rfl) | (simp [*, errW_none, errW_some] <;> rfl), by repeat (first | (with_reducible first | exact HB.out | apply below_alloc | apply pw_below_drewN | apply below_drew1 | refine below_set ?_ GE119.out) | exact HB.out)⟩
                          · rw [if_neg c21] at H
                            exact absurd H (by simp)
                        · replace c20 := Bool.eq_false_iff.mpr c20
                          subst c20
                          have H1 : (if 0 < (t123.length : Int) then (weak_Shows.l1 k2 ((rd_T107 t123 0).f2) true l1 (l1.length : Int) (wrap64 (x31_2 + 1)) a0_0 a0_1 a0_2) else (none)) = some (r1, r2) := by rw [if_neg (show ¬ (false = true) by decide)] at H; exact H
                          clear H
                          have H := H1
                          clear H1
                          by_cases c32 : 0 < (t123.length : Int)
                          · rw [if_pos c32] at H
                            have c32b0 : decide (0 < (t123.length : Int)) = true := decide_eq_true c32
                            have c32b1 : decide (0 < t123.length) = true := decide_eq_true (by omega)
                            clear c32
                            have H' := Aside0.mk H
                            clear H
                            have p122 : 0 ≤ (x31_2 : Int) := of_decide_eq_true (by first | (with_reducible assumption) | assumption)
                            have q122 : x31_2 < (l1.length : Int) := of_decide_eq_true (by first | (with_reducible assumption) | assumption)
                            obtain ⟨ad122, A122_0, c122_0, e122, hx122_0, hl122_0, hi122_0⟩ := at_L5 HR1.out x31_2 p122 q122
                            cases e122
                            replace hx122_0 := (HB.out.cell (World.block_lt_of_cell? w _ hx122_0)).trans hx122_0
                            have HR122_0 := Aside0.mk hi122_0
                            have HC122_0 := Aside0.mk hl122_0
                            clear hi122_0 hl122_0
                            replace p122 := eq_true p122
                            replace q122 := eq_true q122
                            have hcz33_0 : wr.cell? ⟨gb119, 0, none⟩ = some (.int .i64 a0_0) := (blk_cell BK119.out 0).trans rfl
                            have hcz33_1 : wr.cell? ⟨gb119, 1, none⟩ = some (.int .i64 a0_1) := (blk_cell BK119.out 1).trans rfl
                            have hcz33_2 : wr.cell? ⟨gb119, 2, none⟩ = some (.int .i64 a0_2) := (blk_cell BK119.out 2).trans rfl
                            have hfz33_0 := blk_frozen BK119.out 0
                            have hfz33_1 := blk_frozen BK119.out 1
                            have hfz33_2 := blk_frozen BK119.out 2
                            go_wp2_with (first | ((with_reducible refine gate_callee (f := 86) rfl ?_); refine goesL_ (some 38) rfl rfl Try.func86 (by kernel_rfl) rfl #[.slice A122_0 (rd_L5 l1 x31_2).length c122_0, .int .i64 a0_2] rfl (by (try simp only [List.map_toArray, List.map_cons, List.map_nil]); first | done | rfl | (simp only [List.length_drop, List.length_take]; rfl)) ?_; (with_reducible refine (weak_found.calls k2 (fun k_ => k_ < w.heap.size) _ _ (rd_L5 l1 x31_2) a0_2 t123 _ ?side1 A15.out).mono ?_); (case side1 => exact Kd.V_mk HC122_0.out (Kd.F_below (Kd.C_F k107_heap HR122_0.out) (by repeat (first | (with_reducible first | exact HB.out | apply below_alloc | apply pw_below_drewN | apply below_drew1 | refine below_set ?_ GE119.out) | exact HB.out)))); rintro e w34 ⟨v124, rfl, ho0, hb⟩; refine ⟨_, rfl, ?_⟩; have n0_ := Aside0.mk (Kd.V_elder' (by (with_reducible repeat (first | apply Kd.V_alloc | apply Kd.V_drewN | apply Kd.V_drew)); exact HO_6.out) (Kd.N_base ho0) hb); have n1_ := Aside0.mk (Kd.N_lower (Kd.N_mono (ok' := fun k_ => k_ ≠ gb119) ho0 (fun k_ hk_ => Or.elim hk_ (fun hs_ => fun e_ => Nat.not_le.2 hs_ (by rw [e_]; exact GW119.out)) (fun hn_ => (Kd.freshB (g := gb119) (o := .cells #[.int .i64 a0_0, .int .i64 a0_1, .int .i64 a0_2] 29 (0, 0)) (by (with_reducible repeat (first | refine blk_drewN ?_ _ | refine blk_drew ?_ | refine blk_alloc ?_ _)); exact BK119.out) k_ hn_)))) (below_size (by repeat (first | (with_reducible first | exact HB.out | apply below_alloc | apply pw_below_drewN | apply below_drew1 | refine below_set ?_ GE119.out) | exact HB.out)))); have n2_ := Aside0.mk (blk_below (g := gb119) (o := .cells #[.int .i64 a0_0, .int .i64 a0_1, .int .i64 a0_2] 29 (0, 0)) (by (with_reducible repeat (first | refine blk_drewN ?_ _ | refine blk_drew ?_ | refine blk_alloc ?_ _)); exact BK119.out) hb); have n3_ := Aside0.mk (below_step (by repeat (first | (with_reducible first | exact HB.out | apply below_alloc | apply pw_below_drewN | apply below_drew1 | refine below_set ?_ GE119.out) | exact HB.out)) hb); clear HO_6; clear BK119; clear HB; have HO_6 := n0_; have HO125 := n1_; have BK119 := n2_; have HB := n3_; clear n0_ n1_ n2_ n3_; (try clear hb); (try clear hb2); (try clear hk); (try clear hi); (try clear ho0); obtain ⟨Ao35, co35, eo35⟩ := Kd.N_slice HO125.out; subst eo35; have p128 : 0 ≤ (0 : Int) := (by omega); have q128 : 0 < (t123.length : Int) := of_decide_eq_true (by first | (with_reducible assumption) | assumption); obtain ⟨ad128, A128_2, c128_2, e128, hx128_0, hx128_1, hx128_2, hx128_3, hl128_2, hi128_2⟩ := at_T107 (Kd.N_reads' HO125.out).2.2 0 p128 q128; cases e128; obtain ⟨ce128, hce128, hMe128, hcc128⟩ := Kd.N_get HO125.out z107 0 p128 (by first | exact q128 | exact of_decide_eq_true (by first | (with_reducible assumption) | assumption) | (have e_ := (Kd.N_reads' HO125.out).1; omega)); obtain ⟨ua128_2, uc128_2, rfl, ul128_2, ge128_2⟩ := k107_openF hMe128; have hv128_2 := hcc128 2 _ rfl; rw [add_field _ _ 2 (by omega)] at hv128_2; replace hv128_2 := Option.some.inj (hv128_2.symm.trans hx128_2); injection hv128_2 with hva_ hvn_ hvc_; rw [hva_] at ge128_2; rw [hvc_] at ul128_2; have HL128_2 := Aside0.mk (show Kd.V (Kd.int .u8) 5 _ w.heap.size _ _ ((rd_T107 t123 0).f2) from Kd.V_mk ul128_2 ge128_2); clear hva_ hvn_ hvc_ ge128_2 ul128_2; clear hcc128 hce128; have qi128 : (0 < t123.length) = True := eq_true (by omega); (try rw [show ((0 : Int)).toNat = 0 from rfl] at hx128_0); (try rw [show 0 * 4 = 0 from rfl] at hx128_0); (try rw [Addr.add_zero'] at hx128_0); (try rw [show ((0 : Int)).toNat = 0 from rfl] at hx128_1); (try rw [show 0 * 4 = 0 from rfl] at hx128_1); (try rw [Addr.add_zero'] at hx128_1); (try rw [show ((0 : Int)).toNat = 0 from rfl] at hx128_2); (try rw [show 0 * 4 = 0 from rfl] at hx128_2); (try rw [Addr.add_zero'] at hx128_2); (try rw [show ((0 : Int)).toNat = 0 from rfl] at hx128_3); (try rw [show 0 * 4 = 0 from rfl] at hx128_3); (try rw [Addr.add_zero'] at hx128_3); have HR128_2 := Aside0.mk hi128_2; have HC128_2 := Aside0.mk hl128_2; clear hi128_2 hl128_2; replace p128 := eq_true p128; replace q128 := eq_true q128) | (go_at_call 83; go_in) | (go_at_call 84; go_in) | (go_at_call 115; go_in) | ((try simp only [Exit.inBlock, Exit.then]); refine bodyPost_end (results_none rfl _ _ _) rfl ?_; simp only []; go_at_K) | ((try simp only [Exit.inBlock, Exit.then]); refine bodyPost_ret (results_none rfl _ _ _) rfl ?_; simp only []; go_at_K))
                            go_roundg k2
                            case measure => have := HJ2.out; have := HK2.out; omega
                            case rel => exact ⟨((rd_T107 t123 0).f2), (true), (wrap64 (x31_2 + 1)), (by first | rfl | (simp; done) | (simp [*]; done)), (by first | rfl | (simp; done) | (simp [*]; done)), H', ⟨by have := HJ2.out; have := HK2.out; omega⟩, ⟨by (with_reducible repeat (first | apply Kd.V_alloc | apply Kd.V_drewN | apply Kd.V_drew)); exact Kd.V_mono HL128_2.out (fun _ hk => hk.1)⟩, ⟨by (with_reducible repeat (first | refine blk_drewN ?_ _ | refine blk_drew ?_ | refine blk_alloc ?_ _)); exact BK119.out⟩, ⟨by repeat (first | (with_reducible first | exact HB.out | apply below_alloc | apply pw_below_drewN | apply below_drew1 | refine below_set ?_ GE119.out) | exact HB.out)⟩⟩
                          · rw [if_neg c32] at H
                            exact absurd H (by simp)
                    · rw [if_neg c14] at H
                      exact absurd H (by simp)
                  · rw [if_neg c13] at H
                    exact absurd H (by simp)
                · rw [if_neg c12] at H
                  have c12b0 : decide (x31_2 < (l1.length : Int)) = false := decide_eq_false c12
                  clear c12
                  simp only [Option.some.injEq, Prod.mk.injEq] at H
                  obtain ⟨rfl, rfl⟩ := H
                  go_wp2_with (first | (go_at_call 83; go_in) | (go_at_call 84; go_in) | (go_at_call 115; go_in) | ((try simp only [Exit.inBlock, Exit.then]); refine bodyPost_end (results_none rfl _ _ _) rfl ?_; simp only []; go_at_K) | ((try simp only [Exit.inBlock, Exit.then]); refine bodyPost_ret (results_none rfl _ _ _) rfl ?_; simp only []; go_at_K) | go_in)
                  go_ret2
                  exact ⟨by first | rfl | (simp [errW_none, errW_some] <;> rfl) | (simp [*, errW_none, errW_some] <;> rfl), by repeat (first | (with_reducible first | exact HB.out | apply below_alloc | apply pw_below_drewN | apply below_drew1 | refine below_set ?_ GE119.out) | exact HB.out)⟩
          · rw [if_neg c10] at H
            have c10b0 : (a0_0 == 3) = false := beq_eq_false_iff_ne.mpr c10
            have c10b1 : (a0_0 != 3) = true := bne_iff_ne.mpr c10
            have H' := Aside0.mk H
            clear H
            have hcz36_0 : wc.cell? ⟨gb119, 0, none⟩ = some (.int .i64 a0_0) := (blk_cell BK119.out 0).trans rfl
            have hcz36_1 : wc.cell? ⟨gb119, 1, none⟩ = some (.int .i64 a0_1) := (blk_cell BK119.out 1).trans rfl
            have hcz36_2 : wc.cell? ⟨gb119, 2, none⟩ = some (.int .i64 a0_2) := (blk_cell BK119.out 2).trans rfl
            have hfz36_0 := blk_frozen BK119.out 0
            have hfz36_1 := blk_frozen BK119.out 1
            have hfz36_2 := blk_frozen BK119.out 2
            go_wp2_with (first | (go_at_call 83; go_in) | (go_at_call 84; go_in) | (go_at_call 115; go_in) | ((try simp only [Exit.inBlock, Exit.then]); refine bodyPost_end (results_none rfl _ _ _) rfl ?_; simp only []; go_at_K) | ((try simp only [Exit.inBlock, Exit.then]); refine bodyPost_ret (results_none rfl _ _ _) rfl ?_; simp only []; go_at_K) | go_in)
            go_loopg [8] kj2 (fun kq v76 w' => ∃ (x76_2 : Int), v76 = .int .i64 x76_2 ∧ Aside0 (weak_Shows.l0 kq l1 (l1.length : Int) x76_2 a0_0 a0_1 a0_2 = some (r1, r2)) ∧ Aside0 (kq ≤ kj2) ∧ Aside0 (w'.heap[gb119]? = some (.cells #[.int .i64 a0_0, .int .i64 a0_1, .int .i64 a0_2] 29 (0, 0))) ∧ Aside0 (Below w.heap.size w w'))
            case atStart => exact ⟨(0), (by first | rfl | (simp; done) | (simp [*]; done)), H', ⟨Nat.le_refl _⟩, ⟨by (with_reducible repeat (first | refine blk_drewN ?_ _ | refine blk_drew ?_ | refine blk_alloc ?_ _)); exact BK119.out⟩, ⟨by repeat (first | (with_reducible first | exact HB.out | apply below_alloc | apply pw_below_drewN | apply below_drew1 | refine below_set ?_ GE119.out) | exact HB.out)⟩⟩
            case round =>
              clear H'
              try clear c1
              try clear p1
              try clear q1
              try clear hx1
              try clear qi1
              try clear c2
              try clear p2
              try clear c3
              try clear c5
              try clear c5b0
              try clear p6
              try clear c8
              try clear c9
              try clear c9b0
              try clear c9b1
              try clear c9b2
              try clear c10
              try clear c10b0
              try clear c10b1
              try clear c12
              try clear c12b0
              try clear p12
              try clear q12
              try clear hx12
              try clear qi12
              try clear c13
              try clear c13b0
              try clear c14
              try clear c14b0
              try clear c16
              try clear c16b0
              try clear c16b1
              try clear c16b2
              try clear c20
              try clear c21
              try clear c21b0
              try clear c21b1
              try clear c22
              try clear c23
              try clear c32
              try clear c32b0
              try clear c32b1
              try clear hcz11_0
              try clear hcz11_1
              try clear hcz11_2
              try clear hcz17_0
              try clear hcz17_1
              try clear hcz17_2
              try clear hcz24_0
              try clear hcz24_1
              try clear hcz24_2
              try clear hcz28_0
              try clear hcz28_1
              try clear hcz28_2
              try clear hcz33_0
              try clear hcz33_1
              try clear hcz33_2
              try clear hcz36_0
              try clear hcz36_1
              try clear hcz36_2
              try clear hcz6_0
              try clear hcz6_1
              try clear hcz6_2
              try clear hcz7_0
              try clear hcz7_1
              try clear hcz7_2
              try clear hfz11_0
              try clear hfz11_1
              try clear hfz11_2
              try clear hfz17_0
              try clear hfz17_1
              try clear hfz17_2
              try clear hfz24_0
              try clear hfz24_1
              try clear hfz24_2
              try clear hfz28_0
              try clear hfz28_1
              try clear hfz28_2
              try clear hfz33_0
              try clear hfz33_1
              try clear hfz33_2
              try clear hfz36_0
              try clear hfz36_1
              try clear hfz36_2
              try clear hfz6_0
              try clear hfz6_1
              try clear hfz6_2
              try clear hfz7_0
              try clear hfz7_1
              try clear hfz7_2
              try clear hx122_0
              try clear hx126_0
              try clear hx126_1
              try clear hx126_2
              try clear hx126_3
              try clear hx128_0
              try clear hx128_1
              try clear hx128_2
              try clear hx128_3
              try clear p122
              try clear p126
              try clear p128
              try clear p2
              try clear q122
              try clear q126
              try clear q128
              obtain ⟨x76_2, rfl, HA, HK2, BK119, HB⟩ := hrel
              cases gk with
              | zero => exact absurd HA.out (by simp [weak_Shows.l0])
              | succ k2 =>
                have H := HA.out
                clear HA
                simp only [weak_Shows.l0] at H
                by_cases c37 : x76_2 < (l1.length : Int)
                · rw [if_pos c37] at H
                  have c37b0 : decide (x76_2 < (l1.length : Int)) = true := decide_eq_true c37
                  clear c37
                  by_cases c38 : 0 ≤ x76_2
                  · rw [if_pos c38] at H
                    have c38b0 : decide (0 ≤ x76_2) = true := decide_eq_true c38
                    clear c38
                    by_cases c39 : x76_2 < (l1.length : Int)
                    · rw [if_pos c39] at H
                      have c39b0 : decide (x76_2 < (l1.length : Int)) = true := decide_eq_true c39
                      clear c39
                      replace H := Option.bind_eq_some_iff.mp H
                      obtain ⟨t121, A400, H⟩ := H
                      replace H : (if t121 = true then (weak_Shows.l0 k2 l1 (l1.length : Int) (wrap64 (x76_2 + 1)) a0_0 a0_1 a0_2) else (some (!(decide (x76_2 ≥ 0)), 0))) = some (r1, r2) := H
                      have A40 := Aside0.mk A400
                      clear A400
                      by_cases c41 : t121 = true
                      · subst c41
                        have H1 : (weak_Shows.l0 k2 l1 (l1.length : Int) (wrap64 (x76_2 + 1)) a0_0 a0_1 a0_2) = some (r1, r2) := by rw [if_pos rfl] at H; exact H
                        clear H
                        have H := H1
                        clear H1
                        have H' := Aside0.mk H
                        clear H
                        have p120 : 0 ≤ (x76_2 : Int) := of_decide_eq_true (by first | (with_reducible assumption) | assumption)
                        have q120 : x76_2 < (l1.length : Int) := of_decide_eq_true (by first | (with_reducible assumption) | assumption)
                        obtain ⟨ad120, A120_0, c120_0, e120, hx120_0, hl120_0, hi120_0⟩ := at_L5 HR1.out x76_2 p120 q120
                        cases e120
                        replace hx120_0 := (HB.out.cell (World.block_lt_of_cell? w _ hx120_0)).trans hx120_0
                        have HR120_0 := Aside0.mk hi120_0
                        have HC120_0 := Aside0.mk hl120_0
                        clear hi120_0 hl120_0
                        replace p120 := eq_true p120
                        replace q120 := eq_true q120
                        have hcz42_0 : wr.cell? ⟨gb119, 0, none⟩ = some (.int .i64 a0_0) := (blk_cell BK119.out 0).trans rfl
                        have hcz42_1 : wr.cell? ⟨gb119, 1, none⟩ = some (.int .i64 a0_1) := (blk_cell BK119.out 1).trans rfl
                        have hcz42_2 : wr.cell? ⟨gb119, 2, none⟩ = some (.int .i64 a0_2) := (blk_cell BK119.out 2).trans rfl
                        have hfz42_0 := blk_frozen BK119.out 0
                        have hfz42_1 := blk_frozen BK119.out 1
                        have hfz42_2 := blk_frozen BK119.out 2
                        go_wp2_with (first | ((with_reducible refine gate_callee (f := 85) rfl ?_); refine goesL_ (some 6) rfl rfl Try.func85 (by kernel_rfl) rfl #[.agg #[.int .i64 a0_0, .int .i64 a0_1, .int .i64 a0_2], .slice A120_0 (rd_L5 l1 x76_2).length c120_0] rfl (by (try simp only [List.map_toArray, List.map_cons, List.map_nil]); first | done | rfl | (simp only [List.length_drop, List.length_take]; rfl)) ?_; (with_reducible refine (weak_one.calls k2 a0_0 a0_1 a0_2 _ _ (rd_L5 l1 x76_2) true _ ?side1 ?side2 A40.out).mono ?_); (case side1 => repeat (first | exact (Kd.C_below HR120_0.out HB.out) | (with_reducible refine Kd.C_alloc ?_ _) | (with_reducible refine Kd.C_drewN ?_ _) | (with_reducible refine Kd.C_drew ?_))); (case side2 => exact HC120_0.out); rintro e w43 ⟨rfl, hb⟩; refine ⟨_, rfl, ?_⟩; have n0_ := Aside0.mk (blk_below (g := gb119) (o := .cells #[.int .i64 a0_0, .int .i64 a0_1, .int .i64 a0_2] 29 (0, 0)) (by (with_reducible repeat (first | refine blk_drewN ?_ _ | refine blk_drew ?_ | refine blk_alloc ?_ _)); exact BK119.out) hb); have n1_ := Aside0.mk (below_step (by repeat (first | (with_reducible first | exact HB.out | apply below_alloc | apply pw_below_drewN | apply below_drew1 | refine below_set ?_ GE119.out) | exact HB.out)) hb); clear BK119; clear HB; have BK119 := n0_; have HB := n1_; clear n0_ n1_; (try clear hb); (try clear hb2); (try clear hk); (try clear hi)) | (go_at_call 83; go_in) | (go_at_call 84; go_in) | (go_at_call 115; go_in) | ((try simp only [Exit.inBlock, Exit.then]); refine bodyPost_end (results_none rfl _ _ _) rfl ?_; simp only []; go_at_K) | ((try simp only [Exit.inBlock, Exit.then]); refine bodyPost_ret (results_none rfl _ _ _) rfl ?_; simp only []; go_at_K))
                        go_roundg k2
                        case measure => have := HJ2.out; have := HK2.out; omega
                        case rel => exact ⟨(wrap64 (x76_2 + 1)), (by first | rfl | (simp; done) | (simp [*]; done)), H', ⟨by have := HJ2.out; have := HK2.out; omega⟩, ⟨by (with_reducible repeat (first | refine blk_drewN ?_ _ | refine blk_drew ?_ | refine blk_alloc ?_ _)); exact BK119.out⟩, ⟨by repeat (first | (with_reducible first | exact HB.out | apply below_alloc | apply pw_below_drewN | apply below_drew1 | refine below_set ?_ GE119.out) | exact HB.out)⟩⟩
                      · replace c41 := Bool.eq_false_iff.mpr c41
                        subst c41
                        have H1 : (some (!(decide (x76_2 ≥ 0)), 0)) = some (r1, r2) := by rw [if_neg (show ¬ (false = true) by decide)] at H; exact H
                        clear H
                        have H := H1
                        clear H1
                        simp only [Option.some.injEq, Prod.mk.injEq] at H
                        obtain ⟨rfl, rfl⟩ := H
                        have p120 : 0 ≤ (x76_2 : Int) := of_decide_eq_true (by first | (with_reducible assumption) | assumption)
                        have q120 : x76_2 < (l1.length : Int) := of_decide_eq_true (by first | (with_reducible assumption) | assumption)
                        obtain ⟨ad120, A120_0, c120_0, e120, hx120_0, hl120_0, hi120_0⟩ := at_L5 HR1.out x76_2 p120 q120
                        cases e120
                        replace hx120_0 := (HB.out.cell (World.block_lt_of_cell? w _ hx120_0)).trans hx120_0
                        have HR120_0 := Aside0.mk hi120_0
                        have HC120_0 := Aside0.mk hl120_0
                        clear hi120_0 hl120_0
                        replace p120 := eq_true p120
                        replace q120 := eq_true q120
                        have hcz44_0 : wr.cell? ⟨gb119, 0, none⟩ = some (.int .i64 a0_0) := (blk_cell BK119.out 0).trans rfl
                        have hcz44_1 : wr.cell? ⟨gb119, 1, none⟩ = some (.int .i64 a0_1) := (blk_cell BK119.out 1).trans rfl
                        have hcz44_2 : wr.cell? ⟨gb119, 2, none⟩ = some (.int .i64 a0_2) := (blk_cell BK119.out 2).trans rfl
                        have hfz44_0 := blk_frozen BK119.out 0
                        have hfz44_1 := blk_frozen BK119.out 1
                        have hfz44_2 := blk_frozen BK119.out 2
                        go_wp2_with (first | ((with_reducible refine gate_callee (f := 85) rfl ?_); refine goesL_ (some 6) rfl rfl Try.func85 (by kernel_rfl) rfl #[.agg #[.int .i64 a0_0, .int .i64 a0_1, .int .i64 a0_2], .slice A120_0 (rd_L5 l1 x76_2).length c120_0] rfl (by (try simp only [List.map_toArray, List.map_cons, List.map_nil]); first | done | rfl | (simp only [List.length_drop, List.length_take]; rfl)) ?_; (with_reducible refine (weak_one.calls k2 a0_0 a0_1 a0_2 _ _ (rd_L5 l1 x76_2) false _ ?side1 ?side2 A40.out).mono ?_); (case side1 => repeat (first | exact (Kd.C_below HR120_0.out HB.out) | (with_reducible refine Kd.C_alloc ?_ _) | (with_reducible refine Kd.C_drewN ?_ _) | (with_reducible refine Kd.C_drew ?_))); (case side2 => exact HC120_0.out); rintro e w45 ⟨rfl, hb⟩; refine ⟨_, rfl, ?_⟩; have n0_ := Aside0.mk (blk_below (g := gb119) (o := .cells #[.int .i64 a0_0, .int .i64 a0_1, .int .i64 a0_2] 29 (0, 0)) (by (with_reducible repeat (first | refine blk_drewN ?_ _ | refine blk_drew ?_ | refine blk_alloc ?_ _)); exact BK119.out) hb); have n1_ := Aside0.mk (below_step (by repeat (first | (with_reducible first | exact HB.out | apply below_alloc | apply pw_below_drewN | apply below_drew1 | refine below_set ?_ GE119.out) | exact HB.out)) hb); clear BK119; clear HB; have BK119 := n0_; have HB := n1_; clear n0_ n1_; (try clear hb); (try clear hb2); (try clear hk); (try clear hi)) | (go_at_call 83; go_in) | (go_at_call 84; go_in) | (go_at_call 115; go_in) | ((try simp only [Exit.inBlock, Exit.then]); refine bodyPost_end (results_none rfl _ _ _) rfl ?_; simp only []; go_at_K) | ((try simp only [Exit.inBlock, Exit.then]); refine bodyPost_ret (results_none rfl _ _ _) rfl ?_; simp only []; go_at_K))
                        go_ret2
                        exact ⟨by first | rfl | (simp [errW_none, errW_some] <;> rfl) | (simp [*, errW_none, errW_some] <;> rfl), by repeat (first | (with_reducible first | exact HB.out | apply below_alloc | apply pw_below_drewN | apply below_drew1 | refine below_set ?_ GE119.out) | exact HB.out)⟩
                    · rw [if_neg c39] at H
                      exact absurd H (by simp)
                  · rw [if_neg c38] at H
                    exact absurd H (by simp)
                · rw [if_neg c37] at H
                  have c37b0 : decide (x76_2 < (l1.length : Int)) = false := decide_eq_false c37
                  clear c37
                  simp only [Option.some.injEq, Prod.mk.injEq] at H
                  obtain ⟨rfl, rfl⟩ := H
                  go_wp2_with (first | (go_at_call 83; go_in) | (go_at_call 84; go_in) | (go_at_call 115; go_in) | ((try simp only [Exit.inBlock, Exit.then]); refine bodyPost_end (results_none rfl _ _ _) rfl ?_; simp only []; go_at_K) | ((try simp only [Exit.inBlock, Exit.then]); refine bodyPost_ret (results_none rfl _ _ _) rfl ?_; simp only []; go_at_K) | go_in)
                  go_ret2
                  exact ⟨by first | rfl | (simp [errW_none, errW_some] <;> rfl) | (simp [*, errW_none, errW_some] <;> rfl), by repeat (first | (with_reducible first | exact HB.out | apply below_alloc | apply pw_below_drewN | apply below_drew1 | refine below_set ?_ GE119.out) | exact HB.out)⟩

-- NOT PRINTED: function 111 (slices_IndexFunc_byte_byte)

-- NOT PRINTED: function 72 (slices_ContainsFunc_byte_byte)

-- NOT PRINTED: function 87 (bakeref2_Guarded_1)

end Go.Proofs.Ytgiodeiibmbhhaa.PWeakShows
