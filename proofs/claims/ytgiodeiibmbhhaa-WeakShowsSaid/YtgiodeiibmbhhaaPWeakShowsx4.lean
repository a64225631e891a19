-- Written by this session's own program (wip/mp, over the kit's print) for this claim; Lean checks it.
import Derived.Test.YtgiodeiibmbhhaaPWeakShowsx0
import Derived.Test.YtgiodeiibmbhhaaPWeakShowsx2
import Derived.Test.YtgiodeiibmbhhaaPWeakShowsx3
namespace Go.Proofs.Ytgiodeiibmbhhaa.PWeakShows
open Go.RowKit Go.Proofs.YtgiodeiibmbhhaaW.PrintWords Go.Proofs.YtgiodeiibmbhhaaW.PrintLast Go.Proofs.YtgiodeiibmbhhaaW.PrintMore
attribute [local go_sem] max2_int min2_int max_two min_two max_three min_three max_four min_four   -- for this text's walks alone
set_option linter.unusedVariables false
set_option linter.unusedSimpArgs false

/-! ### bakelaw2_WeakShows: function 4 -/
mutual
def bakelaw2_WeakShows.j0 : Nat → List (List (S107)) → Bool → Int → Int → Int → Option (Bool)
  | 0, _, _, _, _, _ => none
  | k + 1, x1, x20, x157000, x157001, x157002 => if x20 = true then (some false) else ((weak_Shows.f k x157000 x157001 x157002 x1).bind fun bt162 => (if x157000 < 0 then (bakelaw2_WeakShows.j1 k x1 bt162.1 bt162.2 true x157000 x157001 x157002) else (bakelaw2_WeakShows.j1 k x1 bt162.1 bt162.2 (decide (x157000 > 4)) x157000 x157001 x157002)))
def bakelaw2_WeakShows.j1 : Nat → List (List (S107)) → Bool → Int → Bool → Int → Int → Int → Option (Bool)
  | 0, _, _, _, _, _, _, _ => none
  | k + 1, x1, x7, x8, x27, x157000, x157001, x157002 => if x27 = true then (if x8 = 1 then (some (!x7)) else (some false)) else (if (x1.length : Int) = 0 then (if x8 = 4 then (some (!x7)) else (some false)) else (if x8 = 0 then ((bakeref2_Guarded.f k x157000 x157001 x157002 x1).bind fun t164 => (some (x7 == t164))) else (some false)))
end
def bakelaw2_WeakShows.f (k : Nat) (a0_0 : Int) (a0_1 : Int) (a0_2 : Int) (l1 : List (List (S107))) : Option (Bool) := (weak_Shows.f k 0 0 0 (([[]] : List (List (S107))))).bind fun bt160 => (if bt160.2 = 0 then (bakelaw2_WeakShows.j0 k l1 (!bt160.1) a0_0 a0_1 a0_2) else (bakelaw2_WeakShows.j0 k l1 true a0_0 a0_1 a0_2))
theorem bakelaw2_WeakShows.mono_l : ∀ k, (∀ y0 y1 y2 y3 y4, LeO (bakelaw2_WeakShows.j0 k y0 y1 y2 y3 y4) (bakelaw2_WeakShows.j0 (k + 1) y0 y1 y2 y3 y4)) ∧ (∀ y0 y1 y2 y3 y4 y5 y6, LeO (bakelaw2_WeakShows.j1 k y0 y1 y2 y3 y4 y5 y6) (bakelaw2_WeakShows.j1 (k + 1) y0 y1 y2 y3 y4 y5 y6))
  | 0 => ⟨fun _ _ _ _ _ r h => by simp [bakelaw2_WeakShows.j0] at h, fun _ _ _ _ _ _ _ r h => by simp [bakelaw2_WeakShows.j1] at h⟩
  | k + 1 => by
    obtain ⟨ih0, ih1⟩ := bakelaw2_WeakShows.mono_l k
    refine ⟨?_, ?_⟩
    · intro y0 y1 y2 y3 y4
      unfold bakelaw2_WeakShows.j0
      repeat' first
      | (with_reducible exact ih0 _ _ _ _ _)
      | (with_reducible exact ih1 _ _ _ _ _ _ _)
      | (with_reducible exact bakeref2_Guarded.mono _ _ _ _ _)
      | (with_reducible exact weak_Shows.mono _ _ _ _ _)
      | (with_reducible exact LeO.refl _)
      | (with_reducible exact LeO.none _)
      | (with_reducible refine LeO.ite ?_ ?_)
      | (with_reducible refine LeO.bind ?_ (fun _ => ?_))
      | exact ih0 _ _ _ _ _
      | exact ih1 _ _ _ _ _ _ _
      | exact bakeref2_Guarded.mono _ _ _ _ _
      | exact weak_Shows.mono _ _ _ _ _
      | exact LeO.none _
      | refine LeO.ite ?_ ?_
      | refine LeO.bind ?_ (fun _ => ?_)
    · intro y0 y1 y2 y3 y4 y5 y6
      unfold bakelaw2_WeakShows.j1
      repeat' first
      | (with_reducible exact ih0 _ _ _ _ _)
      | (with_reducible exact ih1 _ _ _ _ _ _ _)
      | (with_reducible exact bakeref2_Guarded.mono _ _ _ _ _)
      | (with_reducible exact weak_Shows.mono _ _ _ _ _)
      | (with_reducible exact LeO.refl _)
      | (with_reducible exact LeO.none _)
      | (with_reducible refine LeO.ite ?_ ?_)
      | (with_reducible refine LeO.bind ?_ (fun _ => ?_))
      | exact ih0 _ _ _ _ _
      | exact ih1 _ _ _ _ _ _ _
      | exact bakeref2_Guarded.mono _ _ _ _ _
      | exact weak_Shows.mono _ _ _ _ _
      | exact LeO.none _
      | refine LeO.ite ?_ ?_
      | refine LeO.bind ?_ (fun _ => ?_)
theorem bakelaw2_WeakShows.mono : ∀ a0 a1 a2 a3 k, LeO (bakelaw2_WeakShows.f k a0 a1 a2 a3) (bakelaw2_WeakShows.f (k + 1) a0 a1 a2 a3) := by
  intro a0 a1 a2 a3 k
  obtain ⟨ih0, ih1⟩ := bakelaw2_WeakShows.mono_l k
  unfold bakelaw2_WeakShows.f
  repeat' first
      | (with_reducible exact ih0 _ _ _ _ _)
      | (with_reducible exact ih1 _ _ _ _ _ _ _)
      | (with_reducible exact bakeref2_Guarded.mono _ _ _ _ _)
      | (with_reducible exact weak_Shows.mono _ _ _ _ _)
      | (with_reducible exact LeO.refl _)
      | (with_reducible exact LeO.none _)
      | (with_reducible refine LeO.ite ?_ ?_)
      | (with_reducible refine LeO.bind ?_ (fun _ => ?_))
      | exact ih0 _ _ _ _ _
      | exact ih1 _ _ _ _ _ _ _
      | exact bakeref2_Guarded.mono _ _ _ _ _
      | exact weak_Shows.mono _ _ _ _ _
      | exact LeO.none _
      | refine LeO.ite ?_ ?_
      | refine LeO.bind ?_ (fun _ => ?_)
set_option maxHeartbeats 8000000 in
set_option maxRecDepth 100000 in
theorem bakelaw2_WeakShows.calls (k : Nat) (a0_0 : Int) (a0_1 : Int) (a0_2 : Int) (A1 : Option Addr) (c1 : Nat) (l1 : List (List (S107))) (r : Bool) (w : World) (hr1 : Kd.C (Kd.slice 107 k107) w A1 l1.length l1) (hc1 : l1.length ≤ c1) (hT_ : r = true) (h : bakelaw2_WeakShows.f k a0_0 a0_1 a0_2 l1 = some r) :
    Calls Try.prog 4 #[.agg #[.int .i64 a0_0, .int .i64 a0_1, .int .i64 a0_2], .slice A1 l1.length c1] w fun e w' => e = .returned (.bool r) ∧ Below w.heap.size w w' := by
  have hu29 := Try.underlying29
  have HR1 := Aside0.mk hr1
  have HC1 := Aside0.mk hc1
  clear hr1 hc1
  have HB := Aside0.mk (Below.refl w.heap.size w)
  have H : ((weak_Shows.f k 0 0 0 (([[]] : List (List (S107))))).bind fun bt160 => (if bt160.2 = 0 then (bakelaw2_WeakShows.j0 k l1 (!bt160.1) a0_0 a0_1 a0_2) else (bakelaw2_WeakShows.j0 k l1 true a0_0 a0_1 a0_2))) = some r := h
  clear h
  obtain ⟨y157, hy157⟩ : ∃ y_ : List (List (S107)), y_ = (([[]] : List (List (S107)))) := ⟨_, rfl⟩
  replace H : ((weak_Shows.f k 0 0 0 y157).bind fun bt160 => (if bt160.2 = 0 then (bakelaw2_WeakShows.j0 k l1 (!bt160.1) a0_0 a0_1 a0_2) else (bakelaw2_WeakShows.j0 k l1 true a0_0 a0_1 a0_2))) = some r := by first | (rw [hy157]; with_reducible exact H) | (have H2_ := (Option.bind_some _ _).symm.trans H; rw [hy157]; with_reducible exact H2_) | (have H2_ := (Option.bind_some _ _).symm.trans H; with_reducible exact H2_) | with_reducible exact H | (rw [hy157]; exact H) | exact H
  have Ny157 := Aside0.mk hy157
  clear hy157
  replace H := Option.bind_eq_some_iff.mp H
  obtain ⟨⟨t160, t161⟩, A30, H⟩ := H
  replace H : (if t161 = 0 then (bakelaw2_WeakShows.j0 k l1 (!t160) a0_0 a0_1 a0_2) else (bakelaw2_WeakShows.j0 k l1 true a0_0 a0_1 a0_2)) = some r := H
  have A3 := Aside0.mk A30
  clear A30
  have HC4 := Aside0.mk H
  clear H
  go_enter Try.func4, Try.ntmps4
  go_upto_region 2 with (first | ((with_reducible refine gate_dst (N := 2) rfl ?_); refine box_event ?hg (N := 2) ?hd (cs := #[.int .i64 a0_0, .int .i64 a0_1, .int .i64 a0_2]) (t := 29) ?hr ?_; (case hd => rfl); (case hg => rfl); (case hr => first | (go_simp; done) | (go_simp; rfl)); intro gb156 hg w5 hbox hb; have n0_ := Aside0.mk (below_step (by repeat (first | (with_reducible first | exact HB.out | apply below_alloc | apply pw_below_drewN | apply below_drew1) | exact HB.out)) hb); have n1_ := Aside0.mk (hbox); have n2_ := Aside0.mk ((by rw [hg]; exact (below_size (by repeat (first | (with_reducible first | exact HB.out | apply below_alloc | apply pw_below_drewN | apply below_drew1) | exact HB.out))) : w.heap.size ≤ gb156)); have n3_ := Aside0.mk ((by rw [hg]; exact (below_size (by repeat (first | (with_reducible first | exact HB.out | apply below_alloc | apply pw_below_drewN | apply below_drew1) | exact HB.out))) : w.heap.size ≤ gb156)); clear HB; have HB := n0_; have BK156 := n1_; have GW156 := n2_; have GE156 := n3_; clear n0_ n1_ n2_ n3_; clear hb hbox hg) | ((with_reducible refine gate_dst (N := 11) rfl ?_); refine Kd.R_lit (Kd.slice 107 k107) _ 102 ?hg (N := 11) ?hd (xs := ([[]] : List (List (S107)))) (inner := [.slice none 0 0]) (ok := fun _ => True) (okp := fun _ => True) ?hr ?hp (fun _ hk => hk) trivial (Below.refl _ _) (Nat.le_refl _) (by simp) ?_; (case hd => rfl); (case hg => rfl); (case hr => first | (go_simp; done) | (go_simp; rfl)); (case hp => exact (Reps.one (show Kd.M (Kd.slice 107 k107) _ _ _ [] [.slice none 0 0] from ⟨_, rfl, Kd.R_nil _ _ _ _ _⟩) (Reps.none _ _))); intro v158 w6 ho7 hb hg_ hnew_; clear hg_ hnew_; (first | rw [← Ny157.out] at ho7 | (simp only [Int.reduceToNat] at ho7; rw [← Ny157.out] at ho7)); have n0_ := Aside0.mk (Kd.R_lower ho7 (below_size (by repeat (first | (with_reducible first | exact HB.out | apply below_alloc | apply pw_below_drewN | apply below_drew1 | refine below_set ?_ GE156.out) | exact HB.out)))); have n1_ := Aside0.mk (blk_below (g := gb156) (o := .cells #[.int .i64 a0_0, .int .i64 a0_1, .int .i64 a0_2] 29 (0, 0)) (by (with_reducible repeat (first | refine blk_drewN ?_ _ | refine blk_drew ?_ | refine blk_alloc ?_ _)); exact BK156.out) hb); have n2_ := Aside0.mk (below_step (by repeat (first | (with_reducible first | exact HB.out | apply below_alloc | apply pw_below_drewN | apply below_drew1 | refine below_set ?_ GE156.out) | exact HB.out)) hb); clear BK156; clear HB; have HO159 := n0_; have BK156 := n1_; have HB := n2_; clear n0_ n1_ n2_; clear hb ho7; obtain ⟨Ao8, co8, eo8⟩ := Kd.R_slice HO159.out; subst eo8) | ((with_reducible refine gate_callee (f := 20) rfl ?_); refine goesL_ (some 12) rfl rfl Try.func20 (by kernel_rfl) rfl #[.agg #[.int .i64 0, .int .i64 0, .int .i64 0], .slice Ao8 y157.length co8] rfl (by (try simp only [List.map_toArray, List.map_cons, List.map_nil]); first | done | rfl | (simp only [List.length_drop, List.length_take]; rfl)) ?_; (with_reducible refine (weak_Shows.calls k 0 0 0 _ _ y157 t160 t161 _ ?side1 ?side2 A3.out).mono ?_); (case side1 => repeat (first | exact (Kd.R_reads' HO159.out).2.2 | (with_reducible refine Kd.C_alloc ?_ _) | (with_reducible refine Kd.C_drewN ?_ _) | (with_reducible refine Kd.C_drew ?_))); (case side2 => exact (Kd.R_reads' HO159.out).2.1); rintro e w9 ⟨rfl, hb⟩; refine ⟨_, rfl, ?_⟩; have n0_ := Aside0.mk (Kd.R_below (by (with_reducible repeat (first | apply Kd.R_alloc | apply Kd.R_drewN | apply Kd.R_drew)); exact HO159.out) hb); have n1_ := Aside0.mk (blk_below (g := gb156) (o := .cells #[.int .i64 a0_0, .int .i64 a0_1, .int .i64 a0_2] 29 (0, 0)) (by (with_reducible repeat (first | refine blk_drewN ?_ _ | refine blk_drew ?_ | refine blk_alloc ?_ _)); exact BK156.out) hb); have n2_ := Aside0.mk (below_step (by repeat (first | (with_reducible first | exact HB.out | apply below_alloc | apply pw_below_drewN | apply below_drew1 | refine below_set ?_ GE156.out) | exact HB.out)) hb); clear HO159; clear BK156; clear HB; have HO159 := n0_; have BK156 := n1_; have HB := n2_; clear n0_ n1_ n2_; (try clear hb); (try clear hb2); (try clear hk); (try clear hi)))
  (try simp only [Act.put, List.setIfInBounds_toArray, List.set_cons_zero, List.set_cons_succ])
  go_cut [20] (fun v20 wc => ∃ (kq : Nat) (x20_3 : Bool), v20 = .bool x20_3 ∧ Aside0 (bakelaw2_WeakShows.j0 kq l1 x20_3 a0_0 a0_1 a0_2 = some r) ∧ Aside0 (kq ≤ k) ∧ Aside0 (wc.heap[gb156]? = some (.cells #[.int .i64 a0_0, .int .i64 a0_1, .int .i64 a0_2] 29 (0, 0))) ∧ Aside0 (Below w.heap.size w wc))
  case first =>
    have H := HC4.out
    clear HC4
    by_cases c10 : t161 = 0
    · rw [if_pos c10] at H
      have c10b0 : (t161 == 0) = true := beq_iff_eq.mpr c10
      have c10b1 : (t161 != 0) = false := bne_eq_false_iff_eq.mpr c10
      clear c10
      (first | rw [c10b0] | (simp only [i64_w, i32_w]; rw [c10b0]) | skip)
      have H' := Aside0.mk H
      clear H
      go_wp2
      go_meet
      case rel => exact ⟨_, (!t160), (by first | rfl | (simp; done) | (simp [*]; done)), H', ⟨by first | omega | exact Nat.le_refl _⟩, ⟨by (with_reducible repeat (first | refine blk_drewN ?_ _ | refine blk_drew ?_ | refine blk_alloc ?_ _)); exact BK156.out⟩, ⟨by repeat (first | (with_reducible first | exact HB.out | apply below_alloc | apply pw_below_drewN | apply below_drew1 | refine below_set ?_ GE156.out) | exact HB.out)⟩⟩
    · rw [if_neg c10] at H
      have c10b0 : (t161 == 0) = false := beq_eq_false_iff_ne.mpr c10
      have c10b1 : (t161 != 0) = true := bne_iff_ne.mpr c10
      (first | rw [c10b0] | (simp only [i64_w, i32_w]; rw [c10b0]) | skip)
      have H' := Aside0.mk H
      clear H
      go_wp2
      go_meet
      case rel => exact ⟨_, (true), (by first | rfl | (simp; done) | (simp [*]; done)), H', ⟨by first | omega | exact Nat.le_refl _⟩, ⟨by (with_reducible repeat (first | refine blk_drewN ?_ _ | refine blk_drew ?_ | refine blk_alloc ?_ _)); exact BK156.out⟩, ⟨by repeat (first | (with_reducible first | exact HB.out | apply below_alloc | apply pw_below_drewN | apply below_drew1 | refine below_set ?_ GE156.out) | exact HB.out)⟩⟩
  case rest =>
    clear HC4
    try clear c1
    try clear c2
    try clear p2
    try clear c4
    try clear c10
    try clear c10b0
    try clear c10b1
    obtain ⟨kq, x20_3, rfl, HA, HJ3, BK156, HB⟩ := hcut
    cases kq with
    | zero => exact absurd HA.out (by simp [bakelaw2_WeakShows.j0])
    | succ kj3 =>
      have H := HA.out
      clear HA
      simp only [bakelaw2_WeakShows.j0] at H
      by_cases c11 : x20_3 = true
      · subst c11
        have H1 : (some false) = some r := by rw [if_pos rfl] at H; exact H
        clear H
        have H := H1
        clear H1
        exact absurd (H.trans (congrArg some hT_)) (by simp)
      · replace c11 := Bool.eq_false_iff.mpr c11
        subst c11
        have H1 : ((weak_Shows.f kj3 a0_0 a0_1 a0_2 l1).bind fun bt162 => (if a0_0 < 0 then (bakelaw2_WeakShows.j1 kj3 l1 bt162.1 bt162.2 true a0_0 a0_1 a0_2) else (bakelaw2_WeakShows.j1 kj3 l1 bt162.1 bt162.2 (decide (a0_0 > 4)) a0_0 a0_1 a0_2))) = some r := by rw [if_neg (show ¬ (false = true) by decide)] at H; exact H
        clear H
        have H := H1
        clear H1
        replace H := Option.bind_eq_some_iff.mp H
        obtain ⟨⟨t162, t163⟩, A120, H⟩ := H
        replace H : (if a0_0 < 0 then (bakelaw2_WeakShows.j1 kj3 l1 t162 t163 true a0_0 a0_1 a0_2) else (bakelaw2_WeakShows.j1 kj3 l1 t162 t163 (decide (a0_0 > 4)) a0_0 a0_1 a0_2)) = some r := H
        have A12 := Aside0.mk A120
        clear A120
        have HC13 := Aside0.mk H
        clear H
        have hcz14_0 : wc.cell? ⟨gb156, 0, none⟩ = some (.int .i64 a0_0) := (blk_cell BK156.out 0).trans rfl
        have hcz14_1 : wc.cell? ⟨gb156, 1, none⟩ = some (.int .i64 a0_1) := (blk_cell BK156.out 1).trans rfl
        have hcz14_2 : wc.cell? ⟨gb156, 2, none⟩ = some (.int .i64 a0_2) := (blk_cell BK156.out 2).trans rfl
        have hfz14_0 := blk_frozen BK156.out 0
        have hfz14_1 := blk_frozen BK156.out 1
        have hfz14_2 := blk_frozen BK156.out 2
        go_upto_region 5 with (first | ((with_reducible refine gate_callee (f := 20) rfl ?_); refine goesL_ (some 24) rfl rfl Try.func20 (by kernel_rfl) rfl #[.agg #[.int .i64 a0_0, .int .i64 a0_1, .int .i64 a0_2], .slice A1 l1.length c1] rfl (by (try simp only [List.map_toArray, List.map_cons, List.map_nil]); first | done | rfl | (simp only [List.length_drop, List.length_take]; rfl)) ?_; (with_reducible refine (weak_Shows.calls kj3 a0_0 a0_1 a0_2 _ _ l1 t162 t163 _ ?side1 ?side2 A12.out).mono ?_); (case side1 => repeat (first | exact (Kd.C_below HR1.out HB.out) | (with_reducible refine Kd.C_alloc ?_ _) | (with_reducible refine Kd.C_drewN ?_ _) | (with_reducible refine Kd.C_drew ?_))); (case side2 => exact HC1.out); rintro e w15 ⟨rfl, hb⟩; refine ⟨_, rfl, ?_⟩; have n0_ := Aside0.mk (blk_below (g := gb156) (o := .cells #[.int .i64 a0_0, .int .i64 a0_1, .int .i64 a0_2] 29 (0, 0)) (by (with_reducible repeat (first | refine blk_drewN ?_ _ | refine blk_drew ?_ | refine blk_alloc ?_ _)); exact BK156.out) hb); have n1_ := Aside0.mk (below_step (by repeat (first | (with_reducible first | exact HB.out | apply below_alloc | apply pw_below_drewN | apply below_drew1 | refine below_set ?_ GE156.out) | exact HB.out)) hb); clear BK156; clear HB; have BK156 := n0_; have HB := n1_; clear n0_ n1_; (try clear hb); (try clear hb2); (try clear hk); (try clear hi)))
        (try simp only [Act.put, List.setIfInBounds_toArray, List.set_cons_zero, List.set_cons_succ])
        go_cut [27] (fun v27 wc => ∃ (kq : Nat) (x27_12 : Bool), v27 = .bool x27_12 ∧ Aside0 (bakelaw2_WeakShows.j1 kq l1 t162 t163 x27_12 a0_0 a0_1 a0_2 = some r) ∧ Aside0 (kq ≤ kj3) ∧ Aside0 (wc.heap[gb156]? = some (.cells #[.int .i64 a0_0, .int .i64 a0_1, .int .i64 a0_2] 29 (0, 0))) ∧ Aside0 (Below w.heap.size w wc))
        case first =>
          have H := HC13.out
          clear HC13
          by_cases c16 : a0_0 < 0
          · rw [if_pos c16] at H
            have c16b0 : decide (a0_0 < 0) = true := decide_eq_true c16
            clear c16
            (first | rw [c16b0] | (simp only [i64_w, i32_w]; rw [c16b0]) | skip)
            have H' := Aside0.mk H
            clear H
            have hcz17_0 : w15.cell? ⟨gb156, 0, none⟩ = some (.int .i64 a0_0) := (blk_cell BK156.out 0).trans rfl
            have hcz17_1 : w15.cell? ⟨gb156, 1, none⟩ = some (.int .i64 a0_1) := (blk_cell BK156.out 1).trans rfl
            have hcz17_2 : w15.cell? ⟨gb156, 2, none⟩ = some (.int .i64 a0_2) := (blk_cell BK156.out 2).trans rfl
            have hfz17_0 := blk_frozen BK156.out 0
            have hfz17_1 := blk_frozen BK156.out 1
            have hfz17_2 := blk_frozen BK156.out 2
            go_wp2
            go_meet
            case rel => exact ⟨_, (true), (by first | rfl | (simp; done) | (simp [*]; done)), H', ⟨by have := HJ3.out; first | omega | exact Nat.le_refl _⟩, ⟨by (with_reducible repeat (first | refine blk_drewN ?_ _ | refine blk_drew ?_ | refine blk_alloc ?_ _)); exact BK156.out⟩, ⟨by repeat (first | (with_reducible first | exact HB.out | apply below_alloc | apply pw_below_drewN | apply below_drew1 | refine below_set ?_ GE156.out) | exact HB.out)⟩⟩
          · rw [if_neg c16] at H
            have c16b0 : decide (a0_0 < 0) = false := decide_eq_false c16
            clear c16
            (first | rw [c16b0] | (simp only [i64_w, i32_w]; rw [c16b0]) | skip)
            have H' := Aside0.mk H
            clear H
            have hcz18_0 : w15.cell? ⟨gb156, 0, none⟩ = some (.int .i64 a0_0) := (blk_cell BK156.out 0).trans rfl
            have hcz18_1 : w15.cell? ⟨gb156, 1, none⟩ = some (.int .i64 a0_1) := (blk_cell BK156.out 1).trans rfl
            have hcz18_2 : w15.cell? ⟨gb156, 2, none⟩ = some (.int .i64 a0_2) := (blk_cell BK156.out 2).trans rfl
            have hfz18_0 := blk_frozen BK156.out 0
            have hfz18_1 := blk_frozen BK156.out 1
            have hfz18_2 := blk_frozen BK156.out 2
            go_wp2
            go_meet
            case rel => exact ⟨_, (decide (a0_0 > 4)), (by first | rfl | (simp; done) | (simp [*]; done)), H', ⟨by have := HJ3.out; first | omega | exact Nat.le_refl _⟩, ⟨by (with_reducible repeat (first | refine blk_drewN ?_ _ | refine blk_drew ?_ | refine blk_alloc ?_ _)); exact BK156.out⟩, ⟨by repeat (first | (with_reducible first | exact HB.out | apply below_alloc | apply pw_below_drewN | apply below_drew1 | refine below_set ?_ GE156.out) | exact HB.out)⟩⟩
        case rest =>
          clear HC13
          try clear c1
          try clear c2
          try clear p2
          try clear c4
          try clear c10
          try clear c10b0
          try clear c10b1
          try clear c11
          try clear c16
          try clear c16b0
          try clear hcz14_0
          try clear hcz14_1
          try clear hcz14_2
          try clear hcz17_0
          try clear hcz17_1
          try clear hcz17_2
          try clear hcz18_0
          try clear hcz18_1
          try clear hcz18_2
          try clear hfz14_0
          try clear hfz14_1
          try clear hfz14_2
          try clear hfz17_0
          try clear hfz17_1
          try clear hfz17_2
          try clear hfz18_0
          try clear hfz18_1
          try clear hfz18_2
          try clear p2
          obtain ⟨kq, x27_12, rfl, HA, HJ12, BK156, HB⟩ := hcut
          cases kq with
          | zero => exact absurd HA.out (by simp [bakelaw2_WeakShows.j1])
          | succ kj12 =>
            have H := HA.out
            clear HA
            simp only [bakelaw2_WeakShows.j1] at H
            by_cases c19 : x27_12 = true
            · subst c19
              have H1 : (if t163 = 1 then (some (!t162)) else (some false)) = some r := by rw [if_pos rfl] at H; exact H
              clear H
              have H := H1
              clear H1
              by_cases c20 : t163 = 1
              · rw [if_pos c20] at H
                have c20b0 : (t163 == 1) = true := beq_iff_eq.mpr c20
                have c20b1 : (t163 != 1) = false := bne_eq_false_iff_eq.mpr c20
                clear c20
                clear hT_
                obtain rfl := Option.some.inj H
                go_wp2
                go_ret
                exact ⟨by first | rfl | (simp [errW_none, errW_some] <;> rfl) | (simp [*, errW_none, errW_some] <;> rfl), by repeat (first | (with_reducible first | exact HB.out | apply below_alloc | apply pw_below_drewN | apply below_drew1 | refine below_set ?_ GE156.out) | exact HB.out)⟩
              · rw [if_neg c20] at H
                have c20b0 : (t163 == 1) = false := beq_eq_false_iff_ne.mpr c20
                have c20b1 : (t163 != 1) = true := bne_iff_ne.mpr c20
                exact absurd (H.trans (congrArg some hT_)) (by simp)
            · replace c19 := Bool.eq_false_iff.mpr c19
              subst c19
              have H1 : (if (l1.length : Int) = 0 then (if t163 = 4 then (some (!t162)) else (some false)) else (if t163 = 0 then ((bakeref2_Guarded.f kj12 a0_0 a0_1 a0_2 l1).bind fun t164 => (some (t162 == t164))) else (some false))) = some r := by rw [if_neg (show ¬ (false = true) by decide)] at H; exact H
              clear H
              have H := H1
              clear H1
              by_cases c21 : (l1.length : Int) = 0
              · rw [if_pos c21] at H
                have c21b0 : ((l1.length : Int) == 0) = true := beq_iff_eq.mpr c21
                have c21b1 : ((l1.length : Int) != 0) = false := bne_eq_false_iff_eq.mpr c21
                clear c21
                by_cases c22 : t163 = 4
                · rw [if_pos c22] at H
                  have c22b0 : (t163 == 4) = true := beq_iff_eq.mpr c22
                  have c22b1 : (t163 != 4) = false := bne_eq_false_iff_eq.mpr c22
                  clear c22
                  clear hT_
                  obtain rfl := Option.some.inj H
                  go_wp2
                  go_ret
                  exact ⟨by first | rfl | (simp [errW_none, errW_some] <;> rfl) | (simp [*, errW_none, errW_some] <;> rfl), by repeat (first | (with_reducible first | exact HB.out | apply below_alloc | apply pw_below_drewN | apply below_drew1 | refine below_set ?_ GE156.out) | exact HB.out)⟩
                · rw [if_neg c22] at H
                  have c22b0 : (t163 == 4) = false := beq_eq_false_iff_ne.mpr c22
                  have c22b1 : (t163 != 4) = true := bne_iff_ne.mpr c22
                  exact absurd (H.trans (congrArg some hT_)) (by simp)
              · rw [if_neg c21] at H
                have c21b0 : ((l1.length : Int) == 0) = false := beq_eq_false_iff_ne.mpr c21
                have c21b1 : ((l1.length : Int) != 0) = true := bne_iff_ne.mpr c21
                have c21b2 : ¬ (l1 = []) := fun h_ => c21 (by rw [h_]; rfl)
                by_cases c23 : t163 = 0
                · rw [if_pos c23] at H
                  have c23b0 : (t163 == 0) = true := beq_iff_eq.mpr c23
                  have c23b1 : (t163 != 0) = false := bne_eq_false_iff_eq.mpr c23
                  clear c23
                  replace H := Option.bind_eq_some_iff.mp H
                  obtain ⟨t164, A240, H⟩ := H
                  replace H : (some (t162 == t164)) = some r := H
                  have A24 := Aside0.mk A240
                  clear A240
                  clear hT_
                  obtain rfl := Option.some.inj H
                  have hcz25_0 : wc.cell? ⟨gb156, 0, none⟩ = some (.int .i64 a0_0) := (blk_cell BK156.out 0).trans rfl
                  have hcz25_1 : wc.cell? ⟨gb156, 1, none⟩ = some (.int .i64 a0_1) := (blk_cell BK156.out 1).trans rfl
                  have hcz25_2 : wc.cell? ⟨gb156, 2, none⟩ = some (.int .i64 a0_2) := (blk_cell BK156.out 2).trans rfl
                  have hfz25_0 := blk_frozen BK156.out 0
                  have hfz25_1 := blk_frozen BK156.out 1
                  have hfz25_2 := blk_frozen BK156.out 2
                  go_wp2_with (first | (go_at_call 21; (with_reducible refine (bakeref2_Guarded.calls kj12 a0_0 a0_1 a0_2 (fun k_ => k_ < w.heap.size) _ _ l1 t164 _ ?side1 A24.out).mono ?_); (case side1 => exact Kd.V_mk HC1.out (Kd.F_below (Kd.C_F (Kd.heap_slice 107 k107_heap) HR1.out) (by repeat (first | (with_reducible first | exact HB.out | apply below_alloc | apply pw_below_drewN | apply below_drew1 | refine below_set ?_ GE156.out) | exact HB.out)))); rintro e w26 ⟨rfl, hb⟩; have n0_ := Aside0.mk (blk_below (g := gb156) (o := .cells #[.int .i64 a0_0, .int .i64 a0_1, .int .i64 a0_2] 29 (0, 0)) (by (with_reducible repeat (first | refine blk_drewN ?_ _ | refine blk_drew ?_ | refine blk_alloc ?_ _)); exact BK156.out) hb); have n1_ := Aside0.mk (below_step (by repeat (first | (with_reducible first | exact HB.out | apply below_alloc | apply pw_below_drewN | apply below_drew1 | refine below_set ?_ GE156.out) | exact HB.out)) hb); clear BK156; clear HB; have BK156 := n0_; have HB := n1_; clear n0_ n1_; (try clear hb); (try clear hb2); (try clear hk); (try clear hi)))
                  go_ret
                  exact ⟨by first | rfl | (simp [errW_none, errW_some] <;> rfl) | (simp [*, errW_none, errW_some] <;> rfl), by repeat (first | (with_reducible first | exact HB.out | apply below_alloc | apply pw_below_drewN | apply below_drew1 | refine below_set ?_ GE156.out) | exact HB.out)⟩
                · rw [if_neg c23] at H
                  have c23b0 : (t163 == 0) = false := beq_eq_false_iff_ne.mpr c23
                  have c23b1 : (t163 != 0) = true := bne_iff_ne.mpr c23
                  exact absurd (H.trans (congrArg some hT_)) (by simp)

/-- THE ONE PURE STATEMENT of bakelaw2_WeakShows. -/
def bakelaw2_WeakShows.Pure : Prop := ∀ (x0 : S29) (x1 : List (List (S107))), ((Lit.int .i64 x0.f0).wf = true ∧ ((Lit.int .i64 x0.f1).wf = true ∧ (Lit.int .i64 x0.f2).wf = true)) → (True ∧ (True ∧ True)) → (∀ y0 ∈ x1, (∀ y1 ∈ y0, ((Lit.int .i64 y1.f0).wf = true ∧ ((Lit.int .i64 y1.f1).wf = true ∧ ((∀ y2 ∈ y1.f2, ((Lit.int .u8 y2).wf = true)) ∧ True))))) → (x1.length * 24 ≤ 140737488351232 ∧ ∀ y0 ∈ x1, (y0.length * 48 ≤ 140737488351232 ∧ ∀ y1 ∈ y0, (True ∧ (True ∧ ((y1.f2.length * 1 ≤ 140737488351232 ∧ ∀ y2 ∈ y1.f2, (True)) ∧ True))))) → ∃ k, bakelaw2_WeakShows.f k x0.f0 x0.f1 x0.f2 x1 = some true

end Go.Proofs.Ytgiodeiibmbhhaa.PWeakShows
