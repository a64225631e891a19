-- Written by this session's own program (wip/mp, over the kit's print) for this claim; Lean checks it.
import Derived.Test.YtgiodeiibmbhhaaPWeakShowsx0
import Derived.Test.YtgiodeiibmbhhaaPWeakShowsx1
namespace Go.Proofs.Ytgiodeiibmbhhaa.PWeakShows
open Go.RowKit Go.Proofs.YtgiodeiibmbhhaaW.PrintWords Go.Proofs.YtgiodeiibmbhhaaW.PrintLast Go.Proofs.YtgiodeiibmbhhaaW.PrintMore
attribute [local go_sem] max2_int min2_int max_two min_two max_three min_three max_four min_four   -- for this text's walks alone
set_option linter.unusedVariables false
set_option linter.unusedSimpArgs false

/-! ### bakeref2_Guarded: function 21 -/
mutual
def bakeref2_Guarded.l0 : Nat → Bool → List (List (S107)) → Int → Int → Int → Int → Int → List (List Int) → Option (Bool)
  | 0, _, _, _, _, _, _, _, _ => none
  | k + 1, x6, x15, x16, x17, x130000, x130001, x130002, x131000 => if x17 < x16 then (if 0 ≤ x17 then (if x17 < (x15.length : Int) then (bakeref2_Guarded.l1 k x6 ([] : List (S107)) true false x15 x16 x17 (rd_L5 x15 x17) ((rd_L5 x15 x17).length : Int) 0 x130000 x130001 x130002 x131000) else (none)) else (none)) else (if x130000 = 3 then (bakeref2_Guarded.l2 k x131000 (x131000.length : Int) 0 x131000) else (some x6))
def bakeref2_Guarded.l1 : Nat → Bool → List (S107) → Bool → Bool → List (List (S107)) → Int → Int → List (S107) → Int → Int → Int → Int → Int → List (List Int) → Option (Bool)
  | 0, _, _, _, _, _, _, _, _, _, _, _, _, _, _ => none
  | k + 1, x6, x9, x10, x11, x15, x16, x17, x21, x22, x23, x130000, x130001, x130002, x131000 => if x23 < x22 then (if 0 ≤ x23 then (if x23 < (x21.length : Int) then (if ((rd_T107 x21 x23).f1) = x130002 then (if x9.length < 2932031007402 then ((some (x9 ++ [(⟨(rd_T107 x21 x23).f0, (rd_T107 x21 x23).f1, (rd_T107 x21 x23).f2, (rd_T107 x21 x23).f3⟩ : S107)] : List (S107))).bind fun y134 => (if x10 = true then (if x11 = true then (bakeref2_Guarded.l1 k x6 y134 ((rd_T107 x21 x23).f3) true x15 x16 x17 x21 x22 (wrap64 (x23 + 1)) x130000 x130001 x130002 x131000) else (bakeref2_Guarded.l1 k x6 y134 ((rd_T107 x21 x23).f3) (((rd_T107 x21 x23).f0) != x130001) x15 x16 x17 x21 x22 (wrap64 (x23 + 1)) x130000 x130001 x130002 x131000)) else (if x11 = true then (bakeref2_Guarded.l1 k x6 y134 false true x15 x16 x17 x21 x22 (wrap64 (x23 + 1)) x130000 x130001 x130002 x131000) else (bakeref2_Guarded.l1 k x6 y134 false (((rd_T107 x21 x23).f0) != x130001) x15 x16 x17 x21 x22 (wrap64 (x23 + 1)) x130000 x130001 x130002 x131000)))) else (none)) else (bakeref2_Guarded.l1 k x6 x9 x10 x11 x15 x16 x17 x21 x22 (wrap64 (x23 + 1)) x130000 x130001 x130002 x131000)) else (none)) else (none)) else (if x6 = true then (if (x9.length : Int) > 0 then ((some (([((x9.length : Int) == 0), x10, decide ((x9.length : Int) > 1), true, x11] : List Bool) : List Bool)).bind fun y137 => (if 0 ≤ x130000 then (if x130000 < (y137.length : Int) then (if 0 < (x9.length : Int) then (if x131000.length < 5864062014805 then (bakeref2_Guarded.l0 k (rdOf false y137 x130000) x15 x16 (wrap64 (x17 + 1)) x130000 x130001 x130002 (x131000 ++ [(rd_T107 x9 0).f2])) else (none)) else (none)) else (none)) else (none))) else ((some (([((x9.length : Int) == 0), false, decide ((x9.length : Int) > 1), true, x11] : List Bool) : List Bool)).bind fun y145 => (if 0 ≤ x130000 then (if x130000 < (y145.length : Int) then (bakeref2_Guarded.l0 k (rdOf false y145 x130000) x15 x16 (wrap64 (x17 + 1)) x130000 x130001 x130002 x131000) else (none)) else (none)))) else (if (x9.length : Int) > 0 then (if 0 < (x9.length : Int) then (if x131000.length < 5864062014805 then (bakeref2_Guarded.l0 k false x15 x16 (wrap64 (x17 + 1)) x130000 x130001 x130002 (x131000 ++ [(rd_T107 x9 0).f2])) else (none)) else (none)) else (bakeref2_Guarded.l0 k false x15 x16 (wrap64 (x17 + 1)) x130000 x130001 x130002 x131000)))
def bakeref2_Guarded.l2 : Nat → List (List Int) → Int → Int → List (List Int) → Option (Bool)
  | 0, _, _, _, _ => none
  | k + 1, x96, x103, x104, x131000 => if x104 < x103 then (if 0 ≤ x104 then (if x104 < (x96.length : Int) then (if 0 < (x131000.length : Int) then ((slices_Equal_byte_byte.f k (rd_L2 x96 x104) (rd_L2 x131000 0)).bind fun t155 => (if t155 = true then (bakeref2_Guarded.l2 k x96 x103 (wrap64 (x104 + 1)) x131000) else (some (decide (x104 ≥ 0))))) else (none)) else (none)) else (none)) else (some (decide ((-1) ≥ 0)))
end
def bakeref2_Guarded.f (k : Nat) (a0_0 : Int) (a0_1 : Int) (a0_2 : Int) (l1 : List (List (S107))) : Option (Bool) := bakeref2_Guarded.l0 k true l1 (l1.length : Int) 0 a0_0 a0_1 a0_2 ([] : List (List Int))
theorem bakeref2_Guarded.mono_l : ∀ k, (∀ y0 y1 y2 y3 y4 y5 y6 y7, LeO (bakeref2_Guarded.l0 k y0 y1 y2 y3 y4 y5 y6 y7) (bakeref2_Guarded.l0 (k + 1) y0 y1 y2 y3 y4 y5 y6 y7)) ∧ (∀ y0 y1 y2 y3 y4 y5 y6 y7 y8 y9 y10 y11 y12 y13, LeO (bakeref2_Guarded.l1 k y0 y1 y2 y3 y4 y5 y6 y7 y8 y9 y10 y11 y12 y13) (bakeref2_Guarded.l1 (k + 1) y0 y1 y2 y3 y4 y5 y6 y7 y8 y9 y10 y11 y12 y13)) ∧ (∀ y0 y1 y2 y3, LeO (bakeref2_Guarded.l2 k y0 y1 y2 y3) (bakeref2_Guarded.l2 (k + 1) y0 y1 y2 y3))
  | 0 => ⟨fun _ _ _ _ _ _ _ _ r h => by simp [bakeref2_Guarded.l0] at h, fun _ _ _ _ _ _ _ _ _ _ _ _ _ _ r h => by simp [bakeref2_Guarded.l1] at h, fun _ _ _ _ r h => by simp [bakeref2_Guarded.l2] at h⟩
  | k + 1 => by
    obtain ⟨ih0, ih1, ih2⟩ := bakeref2_Guarded.mono_l k
    refine ⟨?_, ?_, ?_⟩
    · intro y0 y1 y2 y3 y4 y5 y6 y7
      unfold bakeref2_Guarded.l0
      repeat' first
      | (with_reducible exact ih0 _ _ _ _ _ _ _ _)
      | (with_reducible exact ih1 _ _ _ _ _ _ _ _ _ _ _ _ _ _)
      | (with_reducible exact ih2 _ _ _ _)
      | (with_reducible exact slices_Equal_byte_byte.mono _ _ _)
      | (with_reducible exact LeO.refl _)
      | (with_reducible exact LeO.none _)
      | (with_reducible refine LeO.ite ?_ ?_)
      | (with_reducible refine LeO.bind ?_ (fun _ => ?_))
      | exact ih0 _ _ _ _ _ _ _ _
      | exact ih1 _ _ _ _ _ _ _ _ _ _ _ _ _ _
      | exact ih2 _ _ _ _
      | exact slices_Equal_byte_byte.mono _ _ _
      | exact LeO.none _
      | refine LeO.ite ?_ ?_
      | refine LeO.bind ?_ (fun _ => ?_)
    · intro y0 y1 y2 y3 y4 y5 y6 y7 y8 y9 y10 y11 y12 y13
      unfold bakeref2_Guarded.l1
      repeat' first
      | (with_reducible exact ih0 _ _ _ _ _ _ _ _)
      | (with_reducible exact ih1 _ _ _ _ _ _ _ _ _ _ _ _ _ _)
      | (with_reducible exact ih2 _ _ _ _)
      | (with_reducible exact slices_Equal_byte_byte.mono _ _ _)
      | (with_reducible exact LeO.refl _)
      | (with_reducible exact LeO.none _)
      | (with_reducible refine LeO.ite ?_ ?_)
      | (with_reducible refine LeO.bind ?_ (fun _ => ?_))
      | exact ih0 _ _ _ _ _ _ _ _
      | exact ih1 _ _ _ _ _ _ _ _ _ _ _ _ _ _
      | exact ih2 _ _ _ _
      | exact slices_Equal_byte_byte.mono _ _ _
      | exact LeO.none _
      | refine LeO.ite ?_ ?_
      | refine LeO.bind ?_ (fun _ => ?_)
    · intro y0 y1 y2 y3
      unfold bakeref2_Guarded.l2
      repeat' first
      | (with_reducible exact ih0 _ _ _ _ _ _ _ _)
      | (with_reducible exact ih1 _ _ _ _ _ _ _ _ _ _ _ _ _ _)
      | (with_reducible exact ih2 _ _ _ _)
      | (with_reducible exact slices_Equal_byte_byte.mono _ _ _)
      | (with_reducible exact LeO.refl _)
      | (with_reducible exact LeO.none _)
      | (with_reducible refine LeO.ite ?_ ?_)
      | (with_reducible refine LeO.bind ?_ (fun _ => ?_))
      | exact ih0 _ _ _ _ _ _ _ _
      | exact ih1 _ _ _ _ _ _ _ _ _ _ _ _ _ _
      | exact ih2 _ _ _ _
      | exact slices_Equal_byte_byte.mono _ _ _
      | exact LeO.none _
      | refine LeO.ite ?_ ?_
      | refine LeO.bind ?_ (fun _ => ?_)
theorem bakeref2_Guarded.mono : ∀ a0 a1 a2 a3 k, LeO (bakeref2_Guarded.f k a0 a1 a2 a3) (bakeref2_Guarded.f (k + 1) a0 a1 a2 a3) := by
  intro a0 a1 a2 a3 k
  obtain ⟨ih0, ih1, ih2⟩ := bakeref2_Guarded.mono_l k
  unfold bakeref2_Guarded.f
  repeat' first
      | (with_reducible exact ih0 _ _ _ _ _ _ _ _)
      | (with_reducible exact ih1 _ _ _ _ _ _ _ _ _ _ _ _ _ _)
      | (with_reducible exact ih2 _ _ _ _)
      | (with_reducible exact slices_Equal_byte_byte.mono _ _ _)
      | (with_reducible exact LeO.refl _)
      | (with_reducible exact LeO.none _)
      | (with_reducible refine LeO.ite ?_ ?_)
      | (with_reducible refine LeO.bind ?_ (fun _ => ?_))
      | exact ih0 _ _ _ _ _ _ _ _
      | exact ih1 _ _ _ _ _ _ _ _ _ _ _ _ _ _
      | exact ih2 _ _ _ _
      | exact slices_Equal_byte_byte.mono _ _ _
      | exact LeO.none _
      | refine LeO.ite ?_ ?_
      | refine LeO.bind ?_ (fun _ => ?_)
def bakeref2_Guarded.T13 : Bool × List (List Nat × List Nat) := (true, [([], []), ([0], [0]), ([1], [1]), ([2, 1], [1, 2]), ([1, 3], [1, 3]), ([], []), ([5, 1], [5]), ([6], [6]), ([7, 6], [6, 7]), ([6], [6]), ([9, 6], [6, 9]), ([8, 10, 6], [6, 8, 10]), ([6, 11], [6, 11]), ([4, 6, 0, 1, 2, 3, 4], [0, 4]), ([12, 13, 0, 1, 2, 3, 4, 5, 6, 7, 8, 9, 10, 11, 12, 13], [5, 12])])
def bakeref2_Guarded.B13 : List Nat := [0, 1, 3, 7, 15, 0, 35, 99, 227, 99, 611, 2019, 4067, 127, 16383]
theorem bakeref2_Guarded.tab13 : rtab .any (opsOf Try.f21 13) = bakeref2_Guarded.T13 := by kernel_rfl
theorem bakeref2_Guarded.bits13 : waitsOk bakeref2_Guarded.T13.2 bakeref2_Guarded.B13 = true := by kernel_rfl
def bakeref2_Guarded.T18 : Bool × List (List Nat × List Nat) := (true, [([], []), ([], []), ([1], [1]), ([2], [2]), ([3], [3]), ([4], [4]), ([0, 5], [0, 5]), ([6, 6, 0, 1, 2, 3, 4, 5, 6], [6])])
def bakeref2_Guarded.B18 : List Nat := [0, 0, 2, 6, 14, 30, 63, 127]
theorem bakeref2_Guarded.tab18 : rtab .any (opsOf Try.f21 18) = bakeref2_Guarded.T18 := by kernel_rfl
theorem bakeref2_Guarded.bits18 : waitsOk bakeref2_Guarded.T18.2 bakeref2_Guarded.B18 = true := by kernel_rfl
set_option maxHeartbeats 8000000 in
set_option maxRecDepth 100000 in
theorem bakeref2_Guarded.calls (k : Nat) (a0_0 : Int) (a0_1 : Int) (a0_2 : Int) (P1_ : Nat → Prop) (A1 : Option Addr) (c1 : Nat) (l1 : List (List (S107))) (r : Bool) (w : World) (hs1 : Kd.V (Kd.slice 107 k107) 102 w w.heap.size (fun k_ => P1_ k_) (.slice A1 l1.length c1) l1) (h : bakeref2_Guarded.f k a0_0 a0_1 a0_2 l1 = some r) :
    Calls Try.prog 21 #[.agg #[.int .i64 a0_0, .int .i64 a0_1, .int .i64 a0_2], .slice A1 l1.length c1] w fun e w' => e = .returned (.bool r) ∧ Below w.heap.size w w' := by
  have hu29 := Try.underlying29
  have hu107 := Try.underlying107
  have HO1 := Aside0.mk (show Kd.V (Kd.slice 107 k107) 102 w w.heap.size (fun k_ => (P1_ k_ ∨ w.heap.size ≤ k_)) (.slice A1 l1.length c1) l1 from Kd.V_mono hs1 (fun k_ hk => .inl hk))
  have HB := Aside0.mk (Below.refl w.heap.size w)
  have H : (bakeref2_Guarded.l0 k true l1 (l1.length : Int) 0 a0_0 a0_1 a0_2 ([] : List (List Int))) = some r := h
  clear h
  have H' := Aside0.mk H
  clear H
  go_enter Try.func21, Try.ntmps21
  go_wp2_with (first | ((with_reducible refine gate_dst (N := 2) rfl ?_); (try (refine gate_guard (by rfl) ?_; dsimp only)); refine box_event ?hg (N := 2) ?hd (cs := #[.int .i64 a0_0, .int .i64 a0_1, .int .i64 a0_2]) (t := 29) ?hr ?_; (case hd => rfl); (case hg => rfl); (case hr => first | (go_simp; done) | (go_simp; rfl)); intro gb129 hg w3 hbox hb; have n0_ := Aside0.mk (Kd.V_below (Kd.V_elderB (by (with_reducible repeat (first | apply Kd.V_alloc | apply Kd.V_drewN | apply Kd.V_drew)); exact HO1.out) gb129 (Nat.le_of_eq hg.symm)) hb); have n1_ := Aside0.mk (below_step (by repeat (first | (with_reducible first | exact HB.out | apply below_alloc | apply pw_below_drewN | apply below_drew1) | exact HB.out)) hb); have n2_ := Aside0.mk (hbox); have n3_ := Aside0.mk ((by rw [hg]; exact (below_size (by repeat (first | (with_reducible first | exact HB.out | apply below_alloc | apply pw_below_drewN | apply below_drew1) | exact HB.out))) : w.heap.size ≤ gb129)); have n4_ := Aside0.mk ((by rw [hg]; exact (below_size (by repeat (first | (with_reducible first | exact HB.out | apply below_alloc | apply pw_below_drewN | apply below_drew1) | exact HB.out))) : w.heap.size ≤ gb129)); clear HO1; clear HB; have HO1 := n0_; have HB := n1_; have BK129 := n2_; have GW129 := n3_; have GE129 := n4_; clear n0_ n1_ n2_ n3_ n4_; clear hb hbox hg) | ((with_reducible refine gate_dst (N := 5) rfl ?_); (try (refine gate_guard (by rfl) ?_; dsimp only)); refine box_event ?hg (N := 5) ?hd (cs := #[.slice none 0 0]) (t := 80) ?hr ?_; (case hd => rfl); (case hg => rfl); (case hr => first | (go_simp; done) | (go_simp; rfl)); intro gb130 hg w4 hbox hb; have n0_ := Aside0.mk (Kd.V_below (Kd.V_elderB (by (with_reducible repeat (first | apply Kd.V_alloc | apply Kd.V_drewN | apply Kd.V_drew)); exact HO1.out) gb130 (Nat.le_of_eq hg.symm)) hb); have n1_ := Aside0.mk (blk_below (g := gb129) (o := .cells #[.int .i64 a0_0, .int .i64 a0_1, .int .i64 a0_2] 29 (0, 0)) (by (with_reducible repeat (first | refine blk_drewN ?_ _ | refine blk_drew ?_ | refine blk_alloc ?_ _)); exact BK129.out) hb); have n2_ := Aside0.mk (below_step (by repeat (first | (with_reducible first | exact HB.out | apply below_alloc | apply pw_below_drewN | apply below_drew1 | refine below_set ?_ GE129.out) | exact HB.out)) hb); have n3_ := Aside0.mk (hbox); have n4_ := Aside0.mk ((by rw [hg]; exact (below_size (by repeat (first | (with_reducible first | exact HB.out | apply below_alloc | apply pw_below_drewN | apply below_drew1 | refine below_set ?_ GE129.out) | exact HB.out))) : w.heap.size ≤ gb130)); have n5_ := Aside0.mk ((by rw [hg]; exact (below_size (by repeat (first | (with_reducible first | exact HB.out | apply below_alloc | apply pw_below_drewN | apply below_drew1 | refine below_set ?_ GE129.out) | exact HB.out))) : w.heap.size ≤ gb130)); have n6_ := Aside0.mk ((by rw [hg]; exact Nat.ne_of_lt (blk_lt (g := gb129) (o := .cells #[.int .i64 a0_0, .int .i64 a0_1, .int .i64 a0_2] 29 (0, 0)) (by (with_reducible repeat (first | refine blk_drewN ?_ _ | refine blk_drew ?_ | refine blk_alloc ?_ _)); exact BK129.out)) : gb129 ≠ gb130)); have n7_ := Aside0.mk ((by rw [hg]; exact Nat.ne_of_gt (blk_lt (g := gb129) (o := .cells #[.int .i64 a0_0, .int .i64 a0_1, .int .i64 a0_2] 29 (0, 0)) (by (with_reducible repeat (first | refine blk_drewN ?_ _ | refine blk_drew ?_ | refine blk_alloc ?_ _)); exact BK129.out)) : gb130 ≠ gb129)); clear HO1; clear BK129; clear HB; have HO1 := n0_; have BK129 := n1_; have HB := n2_; have BK130 := n3_; have GW130 := n4_; have GE130 := n5_; have NB129_130 := n6_; have NB130_129 := n7_; clear n0_ n1_ n2_ n3_ n4_ n5_ n6_ n7_; clear hb hbox hg) | (go_at_call 72; go_in) | (go_at_call 87; go_in) | (go_at_call 111; go_in) | ((try simp only [Exit.inBlock, Exit.then]); refine bodyPost_end (results_none rfl _ _ _) rfl ?_; simp only []; go_at_K) | ((try simp only [Exit.inBlock, Exit.then]); refine bodyPost_ret (results_none rfl _ _ _) rfl ?_; simp only []; go_at_K))
  go_loopg [6, 17] k (fun kq v6 v17 w' => ∃ (x6_1 : Bool) (x17_1 : Int) (x131000_1 : List (List Int)) (u131000 : Value), v6 = .bool x6_1 ∧ v17 = .int .i64 x17_1 ∧ Aside0 (bakeref2_Guarded.l0 kq x6_1 l1 (l1.length : Int) x17_1 a0_0 a0_1 a0_2 x131000_1 = some r) ∧ Aside0 (kq ≤ k) ∧ Aside0 (Kd.V (Kd.slice 107 k107) 102 w' w.heap.size (fun k_ => (P1_ k_ ∨ w.heap.size ≤ k_) ∧ some k_ ≠ (u131000 : Value).ownBlock ∧ k_ ≠ gb129 ∧ k_ ≠ gb130) (.slice A1 l1.length c1) l1) ∧ Aside0 (Kd.N (Kd.slice 5 (Kd.int .u8)) 22 w' w.heap.size (fun k_ => (P1_ k_ ∨ w.heap.size ≤ k_) ∧ k_ ≠ gb129 ∧ k_ ≠ gb130) u131000 x131000_1) ∧ Aside0 (w'.heap[gb129]? = some (.cells #[.int .i64 a0_0, .int .i64 a0_1, .int .i64 a0_2] 29 (0, 0))) ∧ Aside0 (w'.heap[gb130]? = some (.cells #[u131000] 80 (0, 0))) ∧ Aside0 (Below w.heap.size w w'))
  case atStart => exact ⟨(true), (0), (([] : List (List Int))), (.slice none 0 0), (by first | rfl | (simp; done) | (simp [*]; done)), (by first | rfl | (simp; done) | (simp [*]; done)), H', ⟨Nat.le_refl _⟩, ⟨by (with_reducible repeat (first | apply Kd.V_alloc | apply Kd.V_drewN | apply Kd.V_drew)); exact Kd.V_mono HO1.out (fun _ hk => ⟨hk.1.1, ⟨(by simp [Value.ownBlock]), ⟨hk.1.2, hk.2⟩⟩⟩)⟩, ⟨by first | exact Kd.S_nil _ _ _ _ _ | exact Kd.N_nil _ _ _ _ _ | exact Kd.V_nil _ _ _ _ _ | exact Kd.Q_nil _ _ _ _ _ | exact Kd.R_nil _ _ _ _ _⟩, ⟨by (with_reducible repeat (first | refine blk_drewN ?_ _ | refine blk_drew ?_ | refine blk_alloc ?_ _)); exact BK129.out⟩, ⟨by (with_reducible repeat (first | refine blk_drewN ?_ _ | refine blk_drew ?_ | refine blk_alloc ?_ _)); exact BK130.out⟩, ⟨by repeat (first | (with_reducible first | exact HB.out | apply below_alloc | apply pw_below_drewN | apply below_drew1 | refine below_set ?_ GE129.out | refine below_set ?_ GE130.out) | exact HB.out)⟩⟩
  case round =>
    clear H'
    try clear c1
    try clear c2
    try clear p2
    obtain ⟨x6_1, x17_1, x131000_1, u131000, rfl, rfl, HA, HK1, HO_15, HO_131000, BK129, BK130, HB⟩ := hrel
    cases gk with
    | zero => exact absurd HA.out (by simp [bakeref2_Guarded.l0])
    | succ k1 =>
      have H := HA.out
      clear HA
      simp only [bakeref2_Guarded.l0] at H
      by_cases c5 : x17_1 < (l1.length : Int)
      · rw [if_pos c5] at H
        have c5b0 : decide (x17_1 < (l1.length : Int)) = true := decide_eq_true c5
        clear c5
        by_cases c6 : 0 ≤ x17_1
        · rw [if_pos c6] at H
          have c6b0 : decide (0 ≤ x17_1) = true := decide_eq_true c6
          clear c6
          by_cases c7 : x17_1 < (l1.length : Int)
          · rw [if_pos c7] at H
            have c7b0 : decide (x17_1 < (l1.length : Int)) = true := decide_eq_true c7
            clear c7
            have H' := Aside0.mk H
            clear H
            have p131 : 0 ≤ (x17_1 : Int) := of_decide_eq_true (by first | (with_reducible assumption) | assumption)
            have q131 : x17_1 < (l1.length : Int) := of_decide_eq_true (by first | (with_reducible assumption) | assumption)
            obtain ⟨ad131, A131_0, c131_0, e131, hx131_0, hl131_0, hi131_0⟩ := at_L5 (Kd.V_reads' HO_15.out).2.2 x17_1 p131 q131
            cases e131
            obtain ⟨ce131, hce131, hMe131, hcc131⟩ := Kd.V_get HO_15.out [] x17_1 p131 (by first | exact q131 | exact of_decide_eq_true (by first | (with_reducible assumption) | assumption) | (have e_ := (Kd.V_reads' HO_15.out).1; omega))
            obtain ⟨ua131_0, uc131_0, rfl, ul131_0, ge131_0⟩ := Kd.FK_slice_open hMe131
            have hv131_0 := hcc131 0 _ rfl
            rw [Nat.add_zero, show ((Kd.slice 107 k107)).sz = 1 from rfl, Nat.mul_one] at hv131_0
            replace hv131_0 := Option.some.inj (hv131_0.symm.trans hx131_0)
            injection hv131_0 with hva_ hvn_ hvc_
            rw [hva_] at ge131_0
            rw [hvc_] at ul131_0
            have HL131_0 := Aside0.mk (show Kd.V k107 107 _ w.heap.size _ _ (rd_L5 l1 x17_1) from Kd.V_mk ul131_0 ge131_0)
            clear hva_ hvn_ hvc_ ge131_0 ul131_0
            clear hcc131 hce131
            have HR131_0 := Aside0.mk hi131_0
            have HC131_0 := Aside0.mk hl131_0
            clear hi131_0 hl131_0
            replace p131 := eq_true p131
            replace q131 := eq_true q131
            go_wp2_with (first | (go_at_call 72; go_in) | (go_at_call 87; go_in) | (go_at_call 111; go_in) | ((try simp only [Exit.inBlock, Exit.then]); refine bodyPost_end (results_none rfl _ _ _) rfl ?_; simp only []; go_at_K) | ((try simp only [Exit.inBlock, Exit.then]); refine bodyPost_ret (results_none rfl _ _ _) rfl ?_; simp only []; go_at_K) | go_in)
            go_loopg [9, 10, 11, 23] k1 (fun kq v9 v10 v11 v23 w' => ∃ (x9_2 : List (S107)) (x10_2 : Bool) (x11_2 : Bool) (x23_2 : Int), v10 = .bool x10_2 ∧ v11 = .bool x11_2 ∧ v23 = .int .i64 x23_2 ∧ Aside0 (bakeref2_Guarded.l1 kq x6_1 x9_2 x10_2 x11_2 l1 (l1.length : Int) x17_1 (rd_L5 l1 x17_1) ((rd_L5 l1 x17_1).length : Int) x23_2 a0_0 a0_1 a0_2 x131000_1 = some r) ∧ Aside0 (kq ≤ k1) ∧ Aside0 (Kd.N k107 107 w' w.heap.size (fun k_ => (P1_ k_ ∨ w.heap.size ≤ k_) ∧ some k_ ≠ (u131000 : Value).ownBlock ∧ k_ ≠ gb129 ∧ k_ ≠ gb130) v9 x9_2) ∧ Aside0 (Kd.V (Kd.slice 107 k107) 102 w' w.heap.size (fun k_ => (P1_ k_ ∨ w.heap.size ≤ k_) ∧ some k_ ≠ (v9 : Value).ownBlock ∧ some k_ ≠ (u131000 : Value).ownBlock ∧ k_ ≠ gb129 ∧ k_ ≠ gb130) (.slice (some ad131) l1.length c1) l1) ∧ Aside0 (Kd.V k107 107 w' w.heap.size (fun k_ => (P1_ k_ ∨ w.heap.size ≤ k_) ∧ some k_ ≠ (v9 : Value).ownBlock ∧ some k_ ≠ (u131000 : Value).ownBlock ∧ k_ ≠ gb129 ∧ k_ ≠ gb130) (.slice A131_0 (rd_L5 l1 x17_1).length c131_0) (rd_L5 l1 x17_1)) ∧ Aside0 (Kd.N (Kd.slice 5 (Kd.int .u8)) 22 w' w.heap.size (fun k_ => (P1_ k_ ∨ w.heap.size ≤ k_) ∧ some k_ ≠ (v9 : Value).ownBlock ∧ k_ ≠ gb129 ∧ k_ ≠ gb130) u131000 x131000_1) ∧ Aside0 (w'.heap[gb129]? = some (.cells #[.int .i64 a0_0, .int .i64 a0_1, .int .i64 a0_2] 29 (0, 0))) ∧ Aside0 (w'.heap[gb130]? = some (.cells #[u131000] 80 (0, 0))) ∧ Aside0 (Below w.heap.size w w'))
            case atStart => exact ⟨(([] : List (S107))), (true), (false), (0), (by first | rfl | (simp; done) | (simp [*]; done)), (by first | rfl | (simp; done) | (simp [*]; done)), (by first | rfl | (simp; done) | (simp [*]; done)), H', ⟨Nat.le_refl _⟩, ⟨by first | exact Kd.S_nil _ _ _ _ _ | exact Kd.N_nil _ _ _ _ _ | exact Kd.V_nil _ _ _ _ _ | exact Kd.Q_nil _ _ _ _ _ | exact Kd.R_nil _ _ _ _ _⟩, ⟨by (with_reducible repeat (first | apply Kd.V_alloc | apply Kd.V_drewN | apply Kd.V_drew)); exact Kd.V_mono HO_15.out (fun _ hk => ⟨hk.1, ⟨(by simp [Value.ownBlock]), ⟨hk.2.1, ⟨hk.2.2.1, hk.2.2.2⟩⟩⟩⟩)⟩, ⟨by (with_reducible repeat (first | apply Kd.V_alloc | apply Kd.V_drewN | apply Kd.V_drew)); exact Kd.V_mono HL131_0.out (fun _ hk => ⟨hk.1, ⟨(by simp [Value.ownBlock]), ⟨hk.2.1, ⟨hk.2.2.1, hk.2.2.2⟩⟩⟩⟩)⟩, ⟨by (with_reducible repeat (first | apply Kd.N_alloc | apply Kd.N_drewN | apply Kd.N_drew)); exact Kd.N_mono HO_131000.out (fun _ hk => ⟨hk.1, ⟨(by simp [Value.ownBlock]), ⟨hk.2.1, hk.2.2⟩⟩⟩)⟩, ⟨by (with_reducible repeat (first | refine blk_drewN ?_ _ | refine blk_drew ?_ | refine blk_alloc ?_ _)); exact BK129.out⟩, ⟨by (with_reducible repeat (first | refine blk_drewN ?_ _ | refine blk_drew ?_ | refine blk_alloc ?_ _)); exact BK130.out⟩, ⟨by repeat (first | (with_reducible first | exact HB.out | apply below_alloc | apply pw_below_drewN | apply below_drew1 | refine below_set ?_ GE129.out | refine below_set ?_ GE130.out) | exact HB.out)⟩⟩
            case round =>
              clear H'
              try clear c1
              try clear p1
              try clear q1
              try clear hx1
              try clear c2
              try clear p2
              try clear c5
              try clear c5b0
              try clear c6
              try clear c6b0
              try clear c7
              try clear c7b0
              try clear hx131_0
              try clear p131
              try clear p2
              try clear q131
              obtain ⟨x9_2, x10_2, x11_2, x23_2, rfl, rfl, rfl, HA, HK2, HO_9, HO_15, HO_21, HO_131000, BK129, BK130, HB⟩ := hrel
              cases gk with
              | zero => exact absurd HA.out (by simp [bakeref2_Guarded.l1])
              | succ k2 =>
                have H := HA.out
                clear HA
                simp only [bakeref2_Guarded.l1] at H
                by_cases c8 : x23_2 < ((rd_L5 l1 x17_1).length : Int)
                · rw [if_pos c8] at H
                  have c8b0 : decide (x23_2 < ((rd_L5 l1 x17_1).length : Int)) = true := decide_eq_true c8
                  clear c8
                  by_cases c9 : 0 ≤ x23_2
                  · rw [if_pos c9] at H
                    have c9b0 : decide (0 ≤ x23_2) = true := decide_eq_true c9
                    clear c9
                    by_cases c10 : x23_2 < ((rd_L5 l1 x17_1).length : Int)
                    · rw [if_pos c10] at H
                      have c10b0 : decide (x23_2 < ((rd_L5 l1 x17_1).length : Int)) = true := decide_eq_true c10
                      clear c10
                      by_cases c11 : ((rd_T107 (rd_L5 l1 x17_1) x23_2).f1) = a0_2
                      · rw [if_pos c11] at H
                        have c11b0 : (((rd_T107 (rd_L5 l1 x17_1) x23_2).f1) == a0_2) = true := beq_iff_eq.mpr c11
                        have c11b1 : (((rd_T107 (rd_L5 l1 x17_1) x23_2).f1) != a0_2) = false := bne_eq_false_iff_eq.mpr c11
                        clear c11
                        by_cases c12 : x9_2.length < 2932031007402
                        · rw [if_pos c12] at H
                          have LMc12 := Aside0.mk c12
                          clear c12
                          obtain ⟨y134, hy134⟩ : ∃ y_ : List (S107), y_ = (x9_2 ++ [(⟨(rd_T107 (rd_L5 l1 x17_1) x23_2).f0, (rd_T107 (rd_L5 l1 x17_1) x23_2).f1, (rd_T107 (rd_L5 l1 x17_1) x23_2).f2, (rd_T107 (rd_L5 l1 x17_1) x23_2).f3⟩ : S107)]) := ⟨_, rfl⟩
                          replace H : (if x10_2 = true then (if x11_2 = true then (bakeref2_Guarded.l1 k2 x6_1 y134 ((rd_T107 (rd_L5 l1 x17_1) x23_2).f3) true l1 (l1.length : Int) x17_1 (rd_L5 l1 x17_1) ((rd_L5 l1 x17_1).length : Int) (wrap64 (x23_2 + 1)) a0_0 a0_1 a0_2 x131000_1) else (bakeref2_Guarded.l1 k2 x6_1 y134 ((rd_T107 (rd_L5 l1 x17_1) x23_2).f3) (((rd_T107 (rd_L5 l1 x17_1) x23_2).f0) != a0_1) l1 (l1.length : Int) x17_1 (rd_L5 l1 x17_1) ((rd_L5 l1 x17_1).length : Int) (wrap64 (x23_2 + 1)) a0_0 a0_1 a0_2 x131000_1)) else (if x11_2 = true then (bakeref2_Guarded.l1 k2 x6_1 y134 false true l1 (l1.length : Int) x17_1 (rd_L5 l1 x17_1) ((rd_L5 l1 x17_1).length : Int) (wrap64 (x23_2 + 1)) a0_0 a0_1 a0_2 x131000_1) else (bakeref2_Guarded.l1 k2 x6_1 y134 false (((rd_T107 (rd_L5 l1 x17_1) x23_2).f0) != a0_1) l1 (l1.length : Int) x17_1 (rd_L5 l1 x17_1) ((rd_L5 l1 x17_1).length : Int) (wrap64 (x23_2 + 1)) a0_0 a0_1 a0_2 x131000_1))) = some r := by first | (rw [hy134]; with_reducible exact H) | (have H2_ := (Option.bind_some _ _).symm.trans H; rw [hy134]; with_reducible exact H2_) | (have H2_ := (Option.bind_some _ _).symm.trans H; with_reducible exact H2_) | with_reducible exact H | (rw [hy134]; exact H) | exact H
                          have Ny134 := Aside0.mk hy134
                          clear hy134
                          by_cases c13 : x10_2 = true
                          · subst c13
                            have H1 : (if x11_2 = true then (bakeref2_Guarded.l1 k2 x6_1 y134 ((rd_T107 (rd_L5 l1 x17_1) x23_2).f3) true l1 (l1.length : Int) x17_1 (rd_L5 l1 x17_1) ((rd_L5 l1 x17_1).length : Int) (wrap64 (x23_2 + 1)) a0_0 a0_1 a0_2 x131000_1) else (bakeref2_Guarded.l1 k2 x6_1 y134 ((rd_T107 (rd_L5 l1 x17_1) x23_2).f3) (((rd_T107 (rd_L5 l1 x17_1) x23_2).f0) != a0_1) l1 (l1.length : Int) x17_1 (rd_L5 l1 x17_1) ((rd_L5 l1 x17_1).length : Int) (wrap64 (x23_2 + 1)) a0_0 a0_1 a0_2 x131000_1)) = some r := by rw [if_pos rfl] at H; exact H
                            clear H
                            have H := H1
                            clear H1
                            by_cases c14 : x11_2 = true
                            · subst c14
                              have H1 : (bakeref2_Guarded.l1 k2 x6_1 y134 ((rd_T107 (rd_L5 l1 x17_1) x23_2).f3) true l1 (l1.length : Int) x17_1 (rd_L5 l1 x17_1) ((rd_L5 l1 x17_1).length : Int) (wrap64 (x23_2 + 1)) a0_0 a0_1 a0_2 x131000_1) = some r := by rw [if_pos rfl] at H; exact H
                              clear H
                              have H := H1
                              clear H1
                              have H' := Aside0.mk H
                              clear H
                              have p132 : 0 ≤ (x23_2 : Int) := of_decide_eq_true (by first | (with_reducible assumption) | assumption)
                              have q132 : x23_2 < ((rd_L5 l1 x17_1).length : Int) := of_decide_eq_true (by first | (with_reducible assumption) | assumption)
                              obtain ⟨ad132, A132_2, c132_2, e132, hx132_0, hx132_1, hx132_2, hx132_3, hl132_2, hi132_2⟩ := at_T107 (Kd.V_reads' HO_21.out).2.2 x23_2 p132 q132
                              cases e132
                              obtain ⟨ce132, hce132, hMe132, hcc132⟩ := Kd.V_get HO_21.out z107 x23_2 p132 (by first | exact q132 | exact of_decide_eq_true (by first | (with_reducible assumption) | assumption) | (have e_ := (Kd.V_reads' HO_21.out).1; omega))
                              obtain ⟨ua132_2, uc132_2, rfl, ul132_2, ge132_2⟩ := k107_openF hMe132
                              have hv132_2 := hcc132 2 _ rfl
                              rw [add_field _ _ 2 (by omega)] at hv132_2
                              replace hv132_2 := Option.some.inj (hv132_2.symm.trans hx132_2)
                              injection hv132_2 with hva_ hvn_ hvc_
                              rw [hva_] at ge132_2
                              rw [hvc_] at ul132_2
                              have HL132_2 := Aside0.mk (show Kd.V (Kd.int .u8) 5 _ w.heap.size _ _ ((rd_T107 (rd_L5 l1 x17_1) x23_2).f2) from Kd.V_mk ul132_2 ge132_2)
                              clear hva_ hvn_ hvc_ ge132_2 ul132_2
                              clear hcc132 hce132
                              have HR132_2 := Aside0.mk hi132_2
                              have HC132_2 := Aside0.mk hl132_2
                              clear hi132_2 hl132_2
                              replace p132 := eq_true p132
                              replace q132 := eq_true q132
                              try go_wp2_with (first | ((with_reducible refine gate_dst (N := 13) rfl ?_); (try (refine gate_guard (by rfl) ?_; dsimp only)); refine box_event ?hg (N := 13) ?hd (cs := #[.int .i64 0, .int .i64 0, .slice none 0 0, .bool false]) (t := 107) ?hr ?_; (case hd => rfl); (case hg => rfl); (case hr => first | (go_simp; done) | (go_simp; rfl)); intro gb133 hg w15 hbox hb; have n0_ := Aside0.mk (Kd.N_below (Kd.N_elderB (by (with_reducible repeat (first | apply Kd.N_alloc | apply Kd.N_drewN | apply Kd.N_drew)); exact HO_9.out) gb133 (Nat.le_of_eq hg.symm)) hb); have n1_ := Aside0.mk (Kd.V_below (Kd.V_elderB (by (with_reducible repeat (first | apply Kd.V_alloc | apply Kd.V_drewN | apply Kd.V_drew)); exact HO_15.out) gb133 (Nat.le_of_eq hg.symm)) hb); have n2_ := Aside0.mk (Kd.V_below (Kd.V_elderB (by (with_reducible repeat (first | apply Kd.V_alloc | apply Kd.V_drewN | apply Kd.V_drew)); exact HO_21.out) gb133 (Nat.le_of_eq hg.symm)) hb); have n3_ := Aside0.mk (Kd.N_below (Kd.N_elderB (by (with_reducible repeat (first | apply Kd.N_alloc | apply Kd.N_drewN | apply Kd.N_drew)); exact HO_131000.out) gb133 (Nat.le_of_eq hg.symm)) hb); have n4_ := Aside0.mk (Kd.V_below (Kd.V_elderB (by (with_reducible repeat (first | apply Kd.V_alloc | apply Kd.V_drewN | apply Kd.V_drew)); exact HL132_2.out) gb133 (Nat.le_of_eq hg.symm)) hb); have n5_ := Aside0.mk (blk_below (g := gb129) (o := .cells #[.int .i64 a0_0, .int .i64 a0_1, .int .i64 a0_2] 29 (0, 0)) (by (with_reducible repeat (first | refine blk_drewN ?_ _ | refine blk_drew ?_ | refine blk_alloc ?_ _)); exact BK129.out) hb); have n6_ := Aside0.mk (blk_below (g := gb130) (o := .cells #[u131000] 80 (0, 0)) (by (with_reducible repeat (first | refine blk_drewN ?_ _ | refine blk_drew ?_ | refine blk_alloc ?_ _)); exact BK130.out) hb); have n7_ := Aside0.mk (Kd.C_below (by repeat (first | (with_reducible exact HR132_2.out) | (with_reducible refine Kd.C_alloc ?_ _) | (with_reducible refine Kd.C_drewN ?_ _) | (with_reducible refine Kd.C_drew ?_) | exact HR132_2.out)) hb); have n8_ := Aside0.mk (below_step (by repeat (first | (with_reducible first | exact HB.out | apply below_alloc | apply pw_below_drewN | apply below_drew1 | refine below_set ?_ GE129.out | refine below_set ?_ GE130.out) | exact HB.out)) hb); have n9_ := Aside0.mk (hbox); have n10_ := Aside0.mk ((by rw [hg]; exact (below_size (by repeat (first | (with_reducible first | exact HB.out | apply below_alloc | apply pw_below_drewN | apply below_drew1 | refine below_set ?_ GE129.out | refine below_set ?_ GE130.out) | exact HB.out))) : w.heap.size ≤ gb133)); have n11_ := Aside0.mk ((by rw [hg]; exact (below_size (by repeat (first | (with_reducible first | exact HB.out | apply below_alloc | apply pw_below_drewN | apply below_drew1 | refine below_set ?_ GE129.out | refine below_set ?_ GE130.out) | exact HB.out))) : w.heap.size ≤ gb133)); have n12_ := Aside0.mk ((by rw [hg]; exact Nat.ne_of_lt (blk_lt (g := gb129) (o := .cells #[.int .i64 a0_0, .int .i64 a0_1, .int .i64 a0_2] 29 (0, 0)) (by (with_reducible repeat (first | refine blk_drewN ?_ _ | refine blk_drew ?_ | refine blk_alloc ?_ _)); exact BK129.out)) : gb129 ≠ gb133)); have n13_ := Aside0.mk ((by rw [hg]; exact Nat.ne_of_gt (blk_lt (g := gb129) (o := .cells #[.int .i64 a0_0, .int .i64 a0_1, .int .i64 a0_2] 29 (0, 0)) (by (with_reducible repeat (first | refine blk_drewN ?_ _ | refine blk_drew ?_ | refine blk_alloc ?_ _)); exact BK129.out)) : gb133 ≠ gb129)); have n14_ := Aside0.mk ((by rw [hg]; exact Nat.ne_of_lt (blk_lt (g := gb130) (o := .cells #[u131000] 80 (0, 0)) (by (with_reducible repeat (first | refine blk_drewN ?_ _ | refine blk_drew ?_ | refine blk_alloc ?_ _)); exact BK130.out)) : gb130 ≠ gb133)); have n15_ := Aside0.mk ((by rw [hg]; exact Nat.ne_of_gt (blk_lt (g := gb130) (o := .cells #[u131000] 80 (0, 0)) (by (with_reducible repeat (first | refine blk_drewN ?_ _ | refine blk_drew ?_ | refine blk_alloc ?_ _)); exact BK130.out)) : gb133 ≠ gb130)); clear HO_9; clear HO_15; clear HO_21; clear HO_131000; clear HL132_2; clear BK129; clear BK130; clear HR132_2; clear HB; have HO_9 := n0_; have HO_15 := n1_; have HO_21 := n2_; have HO_131000 := n3_; have HL132_2 := n4_; have BK129 := n5_; have BK130 := n6_; have HR132_2 := n7_; have HB := n8_; have BK133 := n9_; have GW133 := n10_; have GE133 := n11_; have NB129_133 := n12_; have NB133_129 := n13_; have NB130_133 := n14_; have NB133_130 := n15_; clear n0_ n1_ n2_ n3_ n4_ n5_ n6_ n7_ n8_ n9_ n10_ n11_ n12_ n13_ n14_ n15_; clear hb hbox hg; have hnb16 := NB133_129.out; have hnc16 := NB129_133.out; have hnb17 := NB133_130.out; have hnc17 := NB130_133.out; have hcz18_0 : w15.cell? ⟨gb133, 0, none⟩ = some (.int .i64 0) := (blk_cell BK133.out 0).trans rfl; have hcz18_1 : w15.cell? ⟨gb133, 1, none⟩ = some (.int .i64 0) := (blk_cell BK133.out 1).trans rfl; have hcz18_2 : w15.cell? ⟨gb133, 2, none⟩ = some (.slice none 0 0) := (blk_cell BK133.out 2).trans rfl; have hcz18_3 : w15.cell? ⟨gb133, 3, none⟩ = some (.bool false) := (blk_cell BK133.out 3).trans rfl; have hfz18_0 := blk_frozen BK133.out 0; have hfz18_1 := blk_frozen BK133.out 1; have hfz18_2 := blk_frozen BK133.out 2; have hfz18_3 := blk_frozen BK133.out 3) | ((with_reducible refine gate_store (t := 107) (p := 13) rfl ?_); refine store_event (t := 107) (p := 13) (v := ?vo_w19) (w1 := ((((w15.setCell ⟨gb133, 0, none⟩ (.int .i64 ((rd_T107 (rd_L5 l1 x17_1) x23_2).f0))).setCell ⟨gb133, 1, none⟩ (.int .i64 ((rd_T107 (rd_L5 l1 x17_1) x23_2).f1))).setCell ⟨gb133, 2, none⟩ (.slice A132_2 ((rd_T107 (rd_L5 l1 x17_1) x23_2).f2).length c132_2)).setCell ⟨gb133, 3, none⟩ (.bool ((rd_T107 (rd_L5 l1 x17_1) x23_2).f3)))) ?hg ?ho ?hn ?hr ?_; (case ho => rfl); (case hg => rfl); (case hn => rfl); (case hr => first | (go_simp; done) | (go_simp; rfl)); intro w19 hw; have n0_ : Aside0 (Kd.N k107 107 w19 w.heap.size (fun k_ => (P1_ k_ ∨ w.heap.size ≤ k_) ∧ some k_ ≠ (u131000 : Value).ownBlock ∧ k_ ≠ gb129 ∧ k_ ≠ gb130 ∧ k_ ≠ gb133) u9 x9_2) := ⟨(by rw [hw]; exact (by (with_reducible repeat (first | apply Kd.N_alloc | apply Kd.N_drewN | apply Kd.N_drew)); exact Kd.N_mono (Kd.N_far (p := ⟨gb133, 3, none⟩) (Kd.N_far (p := ⟨gb133, 2, none⟩) (Kd.N_far (p := ⟨gb133, 1, none⟩) (Kd.N_far (p := ⟨gb133, 0, none⟩) (Kd.N_mono HO_9.out (fun k_ hk => (⟨hk, hk.2⟩ : _ ∧ k_ ≠ gb133))) (fun _ hk => hk.2) (.int .i64 ((rd_T107 (rd_L5 l1 x17_1) x23_2).f0))) (fun _ hk => hk.2) (.int .i64 ((rd_T107 (rd_L5 l1 x17_1) x23_2).f1))) (fun _ hk => hk.2) (.slice A132_2 ((rd_T107 (rd_L5 l1 x17_1) x23_2).f2).length c132_2)) (fun _ hk => hk.2) (.bool ((rd_T107 (rd_L5 l1 x17_1) x23_2).f3))) (fun _ hk => ⟨hk.1.1.1, ⟨hk.1.1.2.1, ⟨hk.1.1.2.2.1, ⟨hk.1.1.2.2.2, hk.1.2⟩⟩⟩⟩)))⟩; have n1_ : Aside0 (Kd.V (Kd.slice 107 k107) 102 w19 w.heap.size (fun k_ => (P1_ k_ ∨ w.heap.size ≤ k_) ∧ some k_ ≠ (u9 : Value).ownBlock ∧ some k_ ≠ (u131000 : Value).ownBlock ∧ k_ ≠ gb129 ∧ k_ ≠ gb130 ∧ k_ ≠ gb133) (.slice (some ad131) l1.length c1) l1) := ⟨(by rw [hw]; exact (by (with_reducible repeat (first | apply Kd.V_alloc | apply Kd.V_drewN | apply Kd.V_drew)); exact Kd.V_mono (Kd.V_far (p := ⟨gb133, 3, none⟩) (Kd.V_far (p := ⟨gb133, 2, none⟩) (Kd.V_far (p := ⟨gb133, 1, none⟩) (Kd.V_far (p := ⟨gb133, 0, none⟩) (Kd.V_mono HO_15.out (fun k_ hk => (⟨hk, hk.2⟩ : _ ∧ k_ ≠ gb133))) (fun _ hk => hk.2) (.int .i64 ((rd_T107 (rd_L5 l1 x17_1) x23_2).f0))) (fun _ hk => hk.2) (.int .i64 ((rd_T107 (rd_L5 l1 x17_1) x23_2).f1))) (fun _ hk => hk.2) (.slice A132_2 ((rd_T107 (rd_L5 l1 x17_1) x23_2).f2).length c132_2)) (fun _ hk => hk.2) (.bool ((rd_T107 (rd_L5 l1 x17_1) x23_2).f3))) (fun _ hk => ⟨hk.1.1.1, ⟨hk.1.1.2.1, ⟨hk.1.1.2.2.1, ⟨hk.1.1.2.2.2.1, ⟨hk.1.1.2.2.2.2, hk.1.2⟩⟩⟩⟩⟩)))⟩; have n2_ : Aside0 (Kd.V k107 107 w19 w.heap.size (fun k_ => (P1_ k_ ∨ w.heap.size ≤ k_) ∧ some k_ ≠ (u9 : Value).ownBlock ∧ some k_ ≠ (u131000 : Value).ownBlock ∧ k_ ≠ gb129 ∧ k_ ≠ gb130 ∧ k_ ≠ gb133) (.slice (some ad132) (rd_L5 l1 x17_1).length c131_0) (rd_L5 l1 x17_1)) := ⟨(by rw [hw]; exact (by (with_reducible repeat (first | apply Kd.V_alloc | apply Kd.V_drewN | apply Kd.V_drew)); exact Kd.V_mono (Kd.V_far (p := ⟨gb133, 3, none⟩) (Kd.V_far (p := ⟨gb133, 2, none⟩) (Kd.V_far (p := ⟨gb133, 1, none⟩) (Kd.V_far (p := ⟨gb133, 0, none⟩) (Kd.V_mono HO_21.out (fun k_ hk => (⟨hk, hk.2⟩ : _ ∧ k_ ≠ gb133))) (fun _ hk => hk.2) (.int .i64 ((rd_T107 (rd_L5 l1 x17_1) x23_2).f0))) (fun _ hk => hk.2) (.int .i64 ((rd_T107 (rd_L5 l1 x17_1) x23_2).f1))) (fun _ hk => hk.2) (.slice A132_2 ((rd_T107 (rd_L5 l1 x17_1) x23_2).f2).length c132_2)) (fun _ hk => hk.2) (.bool ((rd_T107 (rd_L5 l1 x17_1) x23_2).f3))) (fun _ hk => ⟨hk.1.1.1, ⟨hk.1.1.2.1, ⟨hk.1.1.2.2.1, ⟨hk.1.1.2.2.2.1, ⟨hk.1.1.2.2.2.2, hk.1.2⟩⟩⟩⟩⟩)))⟩; have n3_ : Aside0 (Kd.N (Kd.slice 5 (Kd.int .u8)) 22 w19 w.heap.size (fun k_ => (P1_ k_ ∨ w.heap.size ≤ k_) ∧ some k_ ≠ (u9 : Value).ownBlock ∧ k_ ≠ gb129 ∧ k_ ≠ gb130 ∧ k_ ≠ gb133) u131000 x131000_1) := ⟨(by rw [hw]; exact (by (with_reducible repeat (first | apply Kd.N_alloc | apply Kd.N_drewN | apply Kd.N_drew)); exact Kd.N_mono (Kd.N_far (p := ⟨gb133, 3, none⟩) (Kd.N_far (p := ⟨gb133, 2, none⟩) (Kd.N_far (p := ⟨gb133, 1, none⟩) (Kd.N_far (p := ⟨gb133, 0, none⟩) (Kd.N_mono HO_131000.out (fun k_ hk => (⟨hk, hk.2⟩ : _ ∧ k_ ≠ gb133))) (fun _ hk => hk.2) (.int .i64 ((rd_T107 (rd_L5 l1 x17_1) x23_2).f0))) (fun _ hk => hk.2) (.int .i64 ((rd_T107 (rd_L5 l1 x17_1) x23_2).f1))) (fun _ hk => hk.2) (.slice A132_2 ((rd_T107 (rd_L5 l1 x17_1) x23_2).f2).length c132_2)) (fun _ hk => hk.2) (.bool ((rd_T107 (rd_L5 l1 x17_1) x23_2).f3))) (fun _ hk => ⟨hk.1.1.1, ⟨hk.1.1.2.1, ⟨hk.1.1.2.2.1, ⟨hk.1.1.2.2.2, hk.1.2⟩⟩⟩⟩)))⟩; have n4_ : Aside0 (Kd.V (Kd.int .u8) 5 w19 w.heap.size (fun k_ => (P1_ k_ ∨ w.heap.size ≤ k_) ∧ some k_ ≠ (u9 : Value).ownBlock ∧ some k_ ≠ (u131000 : Value).ownBlock ∧ k_ ≠ gb129 ∧ k_ ≠ gb130 ∧ k_ ≠ gb133) (.slice A132_2 ((rd_T107 (rd_L5 l1 x17_1) x23_2).f2).length c132_2) ((rd_T107 (rd_L5 l1 x17_1) x23_2).f2)) := ⟨(by rw [hw]; exact (by (with_reducible repeat (first | apply Kd.V_alloc | apply Kd.V_drewN | apply Kd.V_drew)); exact Kd.V_mono (Kd.V_far (p := ⟨gb133, 3, none⟩) (Kd.V_far (p := ⟨gb133, 2, none⟩) (Kd.V_far (p := ⟨gb133, 1, none⟩) (Kd.V_far (p := ⟨gb133, 0, none⟩) (Kd.V_mono HL132_2.out (fun k_ hk => (⟨hk, hk.2⟩ : _ ∧ k_ ≠ gb133))) (fun _ hk => hk.2) (.int .i64 ((rd_T107 (rd_L5 l1 x17_1) x23_2).f0))) (fun _ hk => hk.2) (.int .i64 ((rd_T107 (rd_L5 l1 x17_1) x23_2).f1))) (fun _ hk => hk.2) (.slice A132_2 ((rd_T107 (rd_L5 l1 x17_1) x23_2).f2).length c132_2)) (fun _ hk => hk.2) (.bool ((rd_T107 (rd_L5 l1 x17_1) x23_2).f3))) (fun _ hk => ⟨hk.1.1.1, ⟨hk.1.1.2.1, ⟨hk.1.1.2.2.1, ⟨hk.1.1.2.2.2.1, ⟨hk.1.1.2.2.2.2, hk.1.2⟩⟩⟩⟩⟩)))⟩; have n5_ : Aside0 (w19.heap[gb129]? = some (.cells #[.int .i64 a0_0, .int .i64 a0_1, .int .i64 a0_2] 29 (0, 0))) := ⟨(by rw [hw]; exact (by (with_reducible repeat (first | refine blk_drewN ?_ _ | refine blk_drew ?_ | refine blk_alloc ?_ _)); refine blk_far ?_ NB129_133.out _; (with_reducible repeat (first | refine blk_drewN ?_ _ | refine blk_drew ?_ | refine blk_alloc ?_ _)); refine blk_far ?_ NB129_133.out _; (with_reducible repeat (first | refine blk_drewN ?_ _ | refine blk_drew ?_ | refine blk_alloc ?_ _)); refine blk_far ?_ NB129_133.out _; (with_reducible repeat (first | refine blk_drewN ?_ _ | refine blk_drew ?_ | refine blk_alloc ?_ _)); refine blk_far ?_ NB129_133.out _; (with_reducible repeat (first | refine blk_drewN ?_ _ | refine blk_drew ?_ | refine blk_alloc ?_ _)); exact BK129.out))⟩; have n6_ : Aside0 (w19.heap[gb130]? = some (.cells #[u131000] 80 (0, 0))) := ⟨(by rw [hw]; exact (by (with_reducible repeat (first | refine blk_drewN ?_ _ | refine blk_drew ?_ | refine blk_alloc ?_ _)); refine blk_far ?_ NB130_133.out _; (with_reducible repeat (first | refine blk_drewN ?_ _ | refine blk_drew ?_ | refine blk_alloc ?_ _)); refine blk_far ?_ NB130_133.out _; (with_reducible repeat (first | refine blk_drewN ?_ _ | refine blk_drew ?_ | refine blk_alloc ?_ _)); refine blk_far ?_ NB130_133.out _; (with_reducible repeat (first | refine blk_drewN ?_ _ | refine blk_drew ?_ | refine blk_alloc ?_ _)); refine blk_far ?_ NB130_133.out _; (with_reducible repeat (first | refine blk_drewN ?_ _ | refine blk_drew ?_ | refine blk_alloc ?_ _)); exact BK130.out))⟩; have n7_ : Aside0 (w19.heap[gb133]? = some (.cells #[.int .i64 ((rd_T107 (rd_L5 l1 x17_1) x23_2).f0), .int .i64 ((rd_T107 (rd_L5 l1 x17_1) x23_2).f1), .slice A132_2 ((rd_T107 (rd_L5 l1 x17_1) x23_2).f2).length c132_2, .bool ((rd_T107 (rd_L5 l1 x17_1) x23_2).f3)] 107 (0, 0))) := ⟨(by rw [hw]; exact (by (with_reducible repeat (first | refine blk_drewN ?_ _ | refine blk_drew ?_ | refine blk_alloc ?_ _)); refine blk_put (cs := #[.int .i64 ((rd_T107 (rd_L5 l1 x17_1) x23_2).f0), .int .i64 ((rd_T107 (rd_L5 l1 x17_1) x23_2).f1), .slice A132_2 ((rd_T107 (rd_L5 l1 x17_1) x23_2).f2).length c132_2, .bool false]) ?_ 3 _ rfl; (with_reducible repeat (first | refine blk_drewN ?_ _ | refine blk_drew ?_ | refine blk_alloc ?_ _)); refine blk_put (cs := #[.int .i64 ((rd_T107 (rd_L5 l1 x17_1) x23_2).f0), .int .i64 ((rd_T107 (rd_L5 l1 x17_1) x23_2).f1), .slice none 0 0, .bool false]) ?_ 2 _ rfl; (with_reducible repeat (first | refine blk_drewN ?_ _ | refine blk_drew ?_ | refine blk_alloc ?_ _)); refine blk_put (cs := #[.int .i64 ((rd_T107 (rd_L5 l1 x17_1) x23_2).f0), .int .i64 0, .slice none 0 0, .bool false]) ?_ 1 _ rfl; (with_reducible repeat (first | refine blk_drewN ?_ _ | refine blk_drew ?_ | refine blk_alloc ?_ _)); refine blk_put (cs := #[.int .i64 0, .int .i64 0, .slice none 0 0, .bool false]) ?_ 0 _ rfl; (with_reducible repeat (first | refine blk_drewN ?_ _ | refine blk_drew ?_ | refine blk_alloc ?_ _)); exact BK133.out))⟩; have n8_ : Aside0 (Below w.heap.size w w19) := ⟨(by rw [hw]; exact (by repeat (first | (with_reducible first | exact HB.out | apply below_alloc | apply pw_below_drewN | apply below_drew1 | refine below_set ?_ GE129.out | refine below_set ?_ GE130.out | refine below_set ?_ GE133.out) | exact HB.out)))⟩; clear hw; clear HO_9; clear HO_15; clear HO_21; clear HO_131000; clear HL132_2; clear BK129; clear BK130; clear BK133; clear HB; have HO_9 := n0_; have HO_15 := n1_; have HO_21 := n2_; have HO_131000 := n3_; have HL132_2 := n4_; have BK129 := n5_; have BK130 := n6_; have BK133 := n7_; have HB := n8_; clear n0_ n1_ n2_ n3_ n4_ n5_ n6_ n7_ n8_; have hcz20_0 : w19.cell? ⟨gb133, 0, none⟩ = some (.int .i64 ((rd_T107 (rd_L5 l1 x17_1) x23_2).f0)) := (blk_cell BK133.out 0).trans rfl; have hcz20_1 : w19.cell? ⟨gb133, 1, none⟩ = some (.int .i64 ((rd_T107 (rd_L5 l1 x17_1) x23_2).f1)) := (blk_cell BK133.out 1).trans rfl; have hcz20_2 : w19.cell? ⟨gb133, 2, none⟩ = some (.slice A132_2 ((rd_T107 (rd_L5 l1 x17_1) x23_2).f2).length c132_2) := (blk_cell BK133.out 2).trans rfl; have hcz20_3 : w19.cell? ⟨gb133, 3, none⟩ = some (.bool ((rd_T107 (rd_L5 l1 x17_1) x23_2).f3)) := (blk_cell BK133.out 3).trans rfl; have hfz20_0 := blk_frozen BK133.out 0; have hfz20_1 := blk_frozen BK133.out 1; have hfz20_2 := blk_frozen BK133.out 2; have hfz20_3 := blk_frozen BK133.out 3; have hnb21 := NB129_130.out; have hnc21 := NB130_129.out; have hcz22_0 : w19.cell? ⟨gb129, 0, none⟩ = some (.int .i64 a0_0) := (blk_cell BK129.out 0).trans rfl; have hcz22_1 : w19.cell? ⟨gb129, 1, none⟩ = some (.int .i64 a0_1) := (blk_cell BK129.out 1).trans rfl; have hcz22_2 : w19.cell? ⟨gb129, 2, none⟩ = some (.int .i64 a0_2) := (blk_cell BK129.out 2).trans rfl; have hfz22_0 := blk_frozen BK129.out 0; have hfz22_1 := blk_frozen BK129.out 1; have hfz22_2 := blk_frozen BK129.out 2) | ((with_reducible refine gate_builtin (b := .append) (xs := #[.tmp 32, .tmp 34]) rfl ?_); (try (refine gate_guard (by rfl) ?_; dsimp only)); at_builtin; refine Kd.N_append k107 (w0 := w) w.heap.size rfl (.tmp 32) (.tmp 34) 102 107 (.agg #[(.int .i64 0), (.int .i64 0), (.slice none 0 0), (.bool false)]) 48 rfl Try.underlying102 info107 rfl (by decide) (by omega) u9 x9_2 (⟨(rd_T107 (rd_L5 l1 x17_1) x23_2).f0, (rd_T107 (rd_L5 l1 x17_1) x23_2).f1, (rd_T107 (rd_L5 l1 x17_1) x23_2).f2, (rd_T107 (rd_L5 l1 x17_1) x23_2).f3⟩ : S107) [.int .i64 ((rd_T107 (rd_L5 l1 x17_1) x23_2).f0), .int .i64 ((rd_T107 (rd_L5 l1 x17_1) x23_2).f1), .slice A132_2 ((rd_T107 (rd_L5 l1 x17_1) x23_2).f2).length c132_2, .bool ((rd_T107 (rd_L5 l1 x17_1) x23_2).f3)] (fun k_ => (P1_ k_ ∨ w.heap.size ≤ k_) ∧ some k_ ≠ (u131000 : Value).ownBlock ∧ k_ ≠ gb129 ∧ k_ ≠ gb130 ∧ k_ ≠ gb133) (fun k_ => ((fun k_ => (P1_ k_ ∨ w.heap.size ≤ k_) ∧ some k_ ≠ (u131000 : Value).ownBlock ∧ k_ ≠ gb129 ∧ k_ ≠ gb130 ∧ k_ ≠ gb133)) k_ ∧ some k_ ≠ (u9 : Value).ownBlock) rfl rfl ?aP (fun _ hk => hk) ?aF ?aO ?aB ?aS ?aL ?_; (case aP => exact (k107_mkF _ _ (⟨(rd_T107 (rd_L5 l1 x17_1) x23_2).f0, (rd_T107 (rd_L5 l1 x17_1) x23_2).f1, (rd_T107 (rd_L5 l1 x17_1) x23_2).f2, (rd_T107 (rd_L5 l1 x17_1) x23_2).f3⟩ : S107) (Kd.V_reads' (Kd.V_mono (ok' := (fun k_ => ((fun k_ => (P1_ k_ ∨ w.heap.size ≤ k_) ∧ some k_ ≠ (u131000 : Value).ownBlock ∧ k_ ≠ gb129 ∧ k_ ≠ gb130 ∧ k_ ≠ gb133)) k_ ∧ some k_ ≠ (u9 : Value).ownBlock)) (HL132_2.out) (fun k_ hk => ⟨⟨hk.1, ⟨hk.2.2.1, ⟨hk.2.2.2.1, ⟨hk.2.2.2.2.1, hk.2.2.2.2.2⟩⟩⟩⟩, hk.2.1⟩))).2.1 (Kd.V_F (Kd.V_mono (ok' := (fun k_ => ((fun k_ => (P1_ k_ ∨ w.heap.size ≤ k_) ∧ some k_ ≠ (u131000 : Value).ownBlock ∧ k_ ≠ gb129 ∧ k_ ≠ gb130 ∧ k_ ≠ gb133)) k_ ∧ some k_ ≠ (u9 : Value).ownBlock)) (HL132_2.out) (fun k_ hk => ⟨⟨hk.1, ⟨hk.2.2.1, ⟨hk.2.2.2.1, ⟨hk.2.2.2.2.1, hk.2.2.2.2.2⟩⟩⟩⟩, hk.2.1⟩))))); (case aB => exact (by repeat (first | (with_reducible first | exact HB.out | apply below_alloc | apply pw_below_drewN | apply below_drew1 | refine below_set ?_ GE129.out | refine below_set ?_ GE130.out | refine below_set ?_ GE133.out) | exact HB.out))); (case aF => exact (fun k_ hk => ⟨(.inr (Nat.le_trans (below_size (by repeat (first | (with_reducible first | exact HB.out | apply below_alloc | apply pw_below_drewN | apply below_drew1 | refine below_set ?_ GE129.out | refine below_set ?_ GE130.out | refine below_set ?_ GE133.out) | exact HB.out))) hk)), Kd.fresh' (Kd.N_lt (by (with_reducible repeat (first | apply Kd.N_alloc | apply Kd.N_drewN | apply Kd.N_drew)); exact HO_131000.out)) k_ hk, Kd.freshB (g := gb129) (o := .cells #[.int .i64 a0_0, .int .i64 a0_1, .int .i64 a0_2] 29 (0, 0)) (by (with_reducible repeat (first | refine blk_drewN ?_ _ | refine blk_drew ?_ | refine blk_alloc ?_ _)); exact BK129.out) k_ hk, Kd.freshB (g := gb130) (o := .cells #[u131000] 80 (0, 0)) (by (with_reducible repeat (first | refine blk_drewN ?_ _ | refine blk_drew ?_ | refine blk_alloc ?_ _)); exact BK130.out) k_ hk, Kd.freshB (g := gb133) (o := .cells #[.int .i64 ((rd_T107 (rd_L5 l1 x17_1) x23_2).f0), .int .i64 ((rd_T107 (rd_L5 l1 x17_1) x23_2).f1), .slice A132_2 ((rd_T107 (rd_L5 l1 x17_1) x23_2).f2).length c132_2, .bool ((rd_T107 (rd_L5 l1 x17_1) x23_2).f3)] 107 (0, 0)) (by (with_reducible repeat (first | refine blk_drewN ?_ _ | refine blk_drew ?_ | refine blk_alloc ?_ _)); exact BK133.out) k_ hk⟩)); (case aO => exact (by (with_reducible repeat (first | apply Kd.N_alloc | apply Kd.N_drewN | apply Kd.N_drew)); exact HO_9.out)); (case aS => exact (below_size (by repeat (first | (with_reducible first | exact HB.out | apply below_alloc | apply pw_below_drewN | apply below_drew1 | refine below_set ?_ GE129.out | refine below_set ?_ GE130.out | refine below_set ?_ GE133.out) | exact HB.out)))); (case aL => have := LMc12.out; omega); intro v135 w23 ho hb hg hat; rw [← Ny134.out] at ho; have n0_ := Aside0.mk (Kd.V_afterv (ok := (fun k_ => (P1_ k_ ∨ w.heap.size ≤ k_) ∧ some k_ ≠ (u131000 : Value).ownBlock ∧ k_ ≠ gb129 ∧ k_ ≠ gb130 ∧ k_ ≠ gb133)) (by (with_reducible repeat (first | apply Kd.V_alloc | apply Kd.V_drewN | apply Kd.V_drew)); exact Kd.V_mono HO_15.out (fun _ hk => ⟨⟨hk.1, ⟨hk.2.2.1, ⟨hk.2.2.2.1, ⟨hk.2.2.2.2.1, hk.2.2.2.2.2⟩⟩⟩⟩, hk.2.1⟩)) hg hat); have n1_ := Aside0.mk (Kd.V_afterv (ok := (fun k_ => (P1_ k_ ∨ w.heap.size ≤ k_) ∧ some k_ ≠ (u131000 : Value).ownBlock ∧ k_ ≠ gb129 ∧ k_ ≠ gb130 ∧ k_ ≠ gb133)) (by (with_reducible repeat (first | apply Kd.V_alloc | apply Kd.V_drewN | apply Kd.V_drew)); exact Kd.V_mono HO_21.out (fun _ hk => ⟨⟨hk.1, ⟨hk.2.2.1, ⟨hk.2.2.2.1, ⟨hk.2.2.2.2.1, hk.2.2.2.2.2⟩⟩⟩⟩, hk.2.1⟩)) hg hat); have n2_ := Aside0.mk (Kd.N_afterv (ok := (fun k_ => (P1_ k_ ∨ w.heap.size ≤ k_) ∧ k_ ≠ gb129 ∧ k_ ≠ gb130 ∧ k_ ≠ gb133)) (by (with_reducible repeat (first | apply Kd.N_alloc | apply Kd.N_drewN | apply Kd.N_drew)); exact Kd.N_mono HO_131000.out (fun _ hk => ⟨⟨hk.1, ⟨hk.2.2.1, ⟨hk.2.2.2.1, hk.2.2.2.2⟩⟩⟩, hk.2.1⟩)) hg hat); have n3_ := Aside0.mk (blk_grown (g := gb129) (o := .cells #[.int .i64 a0_0, .int .i64 a0_1, .int .i64 a0_2] 29 (0, 0)) (by (with_reducible repeat (first | refine blk_drewN ?_ _ | refine blk_drew ?_ | refine blk_alloc ?_ _)); exact BK129.out) hg (Kd.N_ne HO_9.out BK129.out (by decide))); have n4_ := Aside0.mk (blk_grown (g := gb130) (o := .cells #[u131000] 80 (0, 0)) (by (with_reducible repeat (first | refine blk_drewN ?_ _ | refine blk_drew ?_ | refine blk_alloc ?_ _)); exact BK130.out) hg (Kd.N_ne HO_9.out BK130.out (by decide))); have n5_ := Aside0.mk (Kd.V_afterv (ok := (fun k_ => (P1_ k_ ∨ w.heap.size ≤ k_) ∧ some k_ ≠ (u131000 : Value).ownBlock ∧ k_ ≠ gb129 ∧ k_ ≠ gb130 ∧ k_ ≠ gb133)) (by (with_reducible repeat (first | apply Kd.V_alloc | apply Kd.V_drewN | apply Kd.V_drew)); exact Kd.V_mono HL132_2.out (fun _ hk => ⟨⟨hk.1, ⟨hk.2.2.1, ⟨hk.2.2.2.1, ⟨hk.2.2.2.2.1, hk.2.2.2.2.2⟩⟩⟩⟩, hk.2.1⟩)) hg hat); have n6_ := Aside0.mk (blk_grown (g := gb133) (o := .cells #[.int .i64 ((rd_T107 (rd_L5 l1 x17_1) x23_2).f0), .int .i64 ((rd_T107 (rd_L5 l1 x17_1) x23_2).f1), .slice A132_2 ((rd_T107 (rd_L5 l1 x17_1) x23_2).f2).length c132_2, .bool ((rd_T107 (rd_L5 l1 x17_1) x23_2).f3)] 107 (0, 0)) (by (with_reducible repeat (first | refine blk_drewN ?_ _ | refine blk_drew ?_ | refine blk_alloc ?_ _)); exact BK133.out) hg (Kd.N_away HO_9.out (fun _ hk => hk.2.2.2.2))); have n7_ := Aside0.mk (hb); have n8_ := Aside0.mk (ho); clear HO_15; clear HO_21; clear HO_131000; clear BK129; clear BK130; clear HL132_2; clear BK133; clear HB; clear HO_9; have HO_15 := n0_; have HO_21 := n1_; have HO_131000 := n2_; have BK129 := n3_; have BK130 := n4_; have HL132_2 := n5_; have BK133 := n6_; have HB := n7_; have HO136 := n8_; clear n0_ n1_ n2_ n3_ n4_ n5_ n6_ n7_ n8_; clear ho hb hg hat) | (go_at_call 72; go_in) | (go_at_call 87; go_in) | (go_at_call 111; go_in) | ((try simp only [Exit.inBlock, Exit.then]); refine bodyPost_end (results_none rfl _ _ _) rfl ?_; simp only []; go_at_K) | ((try simp only [Exit.inBlock, Exit.then]); refine bodyPost_ret (results_none rfl _ _ _) rfl ?_; simp only []; go_at_K))
                              have n0_ := Aside0.mk (Kd.V_drew HO_15.out)
                              have n1_ := Aside0.mk (Kd.V_drew HO_21.out)
                              have n2_ := Aside0.mk (Kd.N_drew HO_131000.out)
                              have n3_ := Aside0.mk (Kd.V_drew HL132_2.out)
                              have n4_ := Aside0.mk (Kd.N_drew HO136.out)
                              have n5_ := Aside0.mk (blk_drew BK129.out)
                              have n6_ := Aside0.mk (blk_drew BK130.out)
                              have n7_ := Aside0.mk (blk_drew BK133.out)
                              have n8_ := Aside0.mk (below_drew1 HB.out)
                              clear HO_15
                              clear HO_21
                              clear HO_131000
                              clear HL132_2
                              clear HO136
                              clear BK129
                              clear BK130
                              clear BK133
                              clear HB
                              have HO_15 := n0_
                              have HO_21 := n1_
                              have HO_131000 := n2_
                              have HL132_2 := n3_
                              have HO136 := n4_
                              have BK129 := n5_
                              have BK130 := n6_
                              have BK133 := n7_
                              have HB := n8_
                              clear n0_ n1_ n2_ n3_ n4_ n5_ n6_ n7_ n8_
                              refine start_ (n := 15) (S := fun w' => w'.cell? ⟨gb133, 0, none⟩ = some (.int .i64 ((rd_T107 (rd_L5 l1 x17_1) x23_2).f0)) ∧ w'.cell? ⟨gb133, 1, none⟩ = some (.int .i64 ((rd_T107 (rd_L5 l1 x17_1) x23_2).f1)) ∧ w'.cell? ⟨gb133, 2, none⟩ = some (.slice A132_2 ((rd_T107 (rd_L5 l1 x17_1) x23_2).f2).length c132_2) ∧ w'.cell? ⟨gb133, 3, none⟩ = some (.bool ((rd_T107 (rd_L5 l1 x17_1) x23_2).f3))) (ds := []) #[false, false, false, false, false, false, false, false, false, false, false, false, false, false, false] (by kernel_rfl) rfl rfl ⟨(blk_cell BK133.out 0).trans rfl, (blk_cell BK133.out 1).trans rfl, (blk_cell BK133.out 2).trans rfl, (blk_cell BK133.out 3).trans rfl⟩ (fun hHeld => ?_); refine with_tabW bakeref2_Guarded.tab13 bakeref2_Guarded.bits13 (fun HT_ HW_ => ?_)
                              generalize w23.drew = w24 at HO_15 HO_21 HO_131000 HL132_2 HO136 BK129 BK130 BK133 HB hHeld ⊢
                              refine pure_ (i := 0) (N := some 36) (v := ?_) (a' := ?_) #[true, false, false, false, false, false, false, false, false, false, false, false, false, false, false] rfl rfl (any_of HT_.out (by kernel_rfl)) (fun _ _ _ h => h) (Or.inl ⟨by rfl, ?_⟩) ?_ ?_
                              rotate_left
                              · intro w'
                                go_simp
                                with_reducible rfl
                              rotate_left
                              · simp only [Act.put, List.setIfInBounds_toArray, List.set_cons_zero, List.set_cons_succ, i64_w, i32_w]
                                rfl
                              refine pure_ (i := 1) (N := some 37) (v := ?_) (a' := ?_) #[true, true, false, false, false, false, false, false, false, false, false, false, false, false, false] rfl rfl (any_of HT_.out (by kernel_rfl)) (fun _ _ _ h => h) (Or.inl ⟨by rfl, ?_⟩) ?_ ?_
                              rotate_left
                              · intro w'
                                go_simp
                                with_reducible rfl
                              rotate_left
                              · simp only [Act.put, List.setIfInBounds_toArray, List.set_cons_zero, List.set_cons_succ, i64_w, i32_w]
                                rfl
                              refine pure_ (i := 2) (N := some 38) (v := ?_) (a' := ?_) #[true, true, true, false, false, false, false, false, false, false, false, false, false, false, false] rfl rfl (any_of HT_.out (by kernel_rfl)) (fun _ _ _ h => h) (Or.inl ⟨by rfl, ?_⟩) ?_ ?_
                              rotate_left
                              · intro w'
                                go_simp
                                with_reducible rfl
                              rotate_left
                              · simp only [Act.put, List.setIfInBounds_toArray, List.set_cons_zero, List.set_cons_succ, i64_w, i32_w]
                                rfl
                              refine pure_ (i := 5) (N := some 41) (v := ?_) (a' := ?_) #[true, true, true, false, false, true, false, false, false, false, false, false, false, false, false] rfl rfl (any_of HT_.out (by kernel_rfl)) (fun _ _ _ h => h) (Or.inl ⟨by rfl, ?_⟩) ?_ ?_
                              rotate_left
                              · intro w'
                                go_simp
                                with_reducible rfl
                              rotate_left
                              · simp only [Act.put, List.setIfInBounds_toArray, List.set_cons_zero, List.set_cons_succ, i64_w, i32_w]
                                rfl
                              refine pure_ (i := 6) (N := some 42) (v := ?_) (a' := ?_) #[true, true, true, false, false, true, true, false, false, false, false, false, false, false, false] rfl rfl (any_of HT_.out (by kernel_rfl)) (fun _ _ _ h => h) (Or.inl ⟨by rfl, ?_⟩) ?_ ?_
                              rotate_left
                              · intro w'
                                go_simp
                                with_reducible rfl
                              rotate_left
                              · simp only [Act.put, List.setIfInBounds_toArray, List.set_cons_zero, List.set_cons_succ, i64_w, i32_w]
                                rfl
                              refine pure_ (i := 7) (N := some 43) (v := undef) (a' := ?_) #[true, true, true, false, false, true, true, true, false, false, false, false, false, false, false] rfl rfl (any_of HT_.out (by kernel_rfl)) (fun _ _ _ h => h) (Or.inr ⟨by rfl, rfl⟩) ?_ ?_
                              rotate_left
                              · simp only [Act.put, List.setIfInBounds_toArray, List.set_cons_zero, List.set_cons_succ, i64_w, i32_w]
                                rfl
                              refine pure_ (i := 8) (N := some 44) (v := undef) (a' := ?_) #[true, true, true, false, false, true, true, true, true, false, false, false, false, false, false] rfl rfl (any_of HT_.out (by kernel_rfl)) (fun _ _ _ h => h) (Or.inr ⟨by rfl, rfl⟩) ?_ ?_
                              rotate_left
                              · simp only [Act.put, List.setIfInBounds_toArray, List.set_cons_zero, List.set_cons_succ, i64_w, i32_w]
                                rfl
                              refine pure_ (i := 9) (N := some 45) (v := undef) (a' := ?_) #[true, true, true, false, false, true, true, true, true, true, false, false, false, false, false] rfl rfl (any_of HT_.out (by kernel_rfl)) (fun _ _ _ h => h) (Or.inr ⟨by rfl, rfl⟩) ?_ ?_
                              rotate_left
                              · simp only [Act.put, List.setIfInBounds_toArray, List.set_cons_zero, List.set_cons_succ, i64_w, i32_w]
                                rfl
                              refine pure_ (i := 10) (N := some 46) (v := undef) (a' := ?_) #[true, true, true, false, false, true, true, true, true, true, true, false, false, false, false] rfl rfl (any_of HT_.out (by kernel_rfl)) (fun _ _ _ h => h) (Or.inr ⟨by rfl, rfl⟩) ?_ ?_
                              rotate_left
                              · simp only [Act.put, List.setIfInBounds_toArray, List.set_cons_zero, List.set_cons_succ, i64_w, i32_w]
                                rfl
                              refine pure_ (i := 11) (N := some 47) (v := undef) (a' := ?_) #[true, true, true, false, false, true, true, true, true, true, true, true, false, false, false] rfl rfl (any_of HT_.out (by kernel_rfl)) (fun _ _ _ h => h) (Or.inr ⟨by rfl, rfl⟩) ?_ ?_
                              rotate_left
                              · simp only [Act.put, List.setIfInBounds_toArray, List.set_cons_zero, List.set_cons_succ, i64_w, i32_w]
                                rfl
                              refine pure_ (i := 12) (N := some 48) (v := ?_) (a' := ?_) #[true, true, true, false, false, true, true, true, true, true, true, true, true, false, false] rfl rfl (any_of HT_.out (by kernel_rfl)) (fun _ _ _ h => h) (Or.inl ⟨by rfl, ?_⟩) ?_ ?_
                              rotate_left
                              · intro w'
                                go_simp
                                with_reducible rfl
                              rotate_left
                              · simp only [Act.put, List.setIfInBounds_toArray, List.set_cons_zero, List.set_cons_succ, i64_w, i32_w]
                                rfl
                              refine take_ (i := 3) (N := some 39) (v := ?_) (a' := ?_) #[true, true, true, true, false, true, true, true, true, true, true, true, true, false, false] rfl rfl (take_ofW HT_.out HW_.out (by kernel_rfl)) (fun _ _ _ h => h) (Or.inl ⟨by rfl, ?_⟩) hHeld ?_ ?_
                              rotate_left
                              · rintro w' ⟨s0, s1, s2, s3⟩
                                go_simp
                                with_reducible rfl
                              rotate_left
                              · simp only [Act.put, List.setIfInBounds_toArray, List.set_cons_zero, List.set_cons_succ, i64_w, i32_w]
                                rfl
                              refine pure_ (i := 4) (N := some 40) (v := ?_) (a' := ?_) #[true, true, true, true, true, true, true, true, true, true, true, true, true, false, false] rfl rfl (any_of HT_.out (by kernel_rfl)) (fun _ _ _ h => h) (Or.inl ⟨by rfl, ?_⟩) ?_ ?_
                              rotate_left
                              · intro w'
                                go_simp
                                with_reducible rfl
                              rotate_left
                              · simp only [Act.put, List.setIfInBounds_toArray, List.set_cons_zero, List.set_cons_succ, i64_w, i32_w]
                                rfl
                              refine pure_ (i := 13) (N := some 10) (v := ?_) (a' := ?_) #[true, true, true, true, true, true, true, true, true, true, true, true, true, true, false] rfl rfl (any_of HT_.out (by kernel_rfl)) (fun _ _ _ h => h) (Or.inl ⟨by rfl, ?_⟩) ?_ ?_
                              rotate_left
                              · intro w'
                                go_simp
                                with_reducible rfl
                              rotate_left
                              · simp only [Act.put, List.setIfInBounds_toArray, List.set_cons_zero, List.set_cons_succ, i64_w, i32_w]
                                rfl
                              refine pure_ (i := 14) (N := some 11) (v := ?_) (a' := ?_) #[true, true, true, true, true, true, true, true, true, true, true, true, true, true, true] rfl rfl (any_of HT_.out (by kernel_rfl)) (fun _ _ _ h => h) (Or.inl ⟨by rfl, ?_⟩) ?_ ?_
                              rotate_left
                              · intro w'
                                go_simp
                                with_reducible rfl
                              rotate_left
                              · simp only [Act.put, List.setIfInBounds_toArray, List.set_cons_zero, List.set_cons_succ, i64_w, i32_w]
                                rfl
                              refine done_ (done_of HT_.out (by kernel_rfl)) ?_
                              try go_wp2
                              go_roundg k2
                              case measure => have := HK1.out; have := HK2.out; omega
                              case rel => exact ⟨(y134), ((rd_T107 (rd_L5 l1 x17_1) x23_2).f3), (true), (wrap64 (x23_2 + 1)), (by first | rfl | (simp; done) | (simp [*]; done)), (by first | rfl | (simp; done) | (simp [*]; done)), (by first | rfl | (simp; done) | (simp [*]; done)), H', ⟨by have := HK1.out; have := HK2.out; omega⟩, ⟨by (with_reducible repeat (first | apply Kd.N_alloc | apply Kd.N_drewN | apply Kd.N_drew)); exact Kd.N_mono HO136.out (fun _ hk => ⟨hk.1, ⟨hk.2.1, ⟨hk.2.2.1, hk.2.2.2.1⟩⟩⟩)⟩, ⟨by (with_reducible repeat (first | apply Kd.V_alloc | apply Kd.V_drewN | apply Kd.V_drew)); exact Kd.V_mono HO_15.out (fun _ hk => ⟨hk.1.1, ⟨hk.2, ⟨hk.1.2.1, ⟨hk.1.2.2.1, hk.1.2.2.2.1⟩⟩⟩⟩)⟩, ⟨by (with_reducible repeat (first | apply Kd.V_alloc | apply Kd.V_drewN | apply Kd.V_drew)); exact Kd.V_mono HO_21.out (fun _ hk => ⟨hk.1.1, ⟨hk.2, ⟨hk.1.2.1, ⟨hk.1.2.2.1, hk.1.2.2.2.1⟩⟩⟩⟩)⟩, ⟨by (with_reducible repeat (first | apply Kd.N_alloc | apply Kd.N_drewN | apply Kd.N_drew)); exact Kd.N_mono HO_131000.out (fun _ hk => ⟨hk.1.1, ⟨hk.2, ⟨hk.1.2.1, hk.1.2.2.1⟩⟩⟩)⟩, ⟨by (with_reducible repeat (first | refine blk_drewN ?_ _ | refine blk_drew ?_ | refine blk_alloc ?_ _)); exact BK129.out⟩, ⟨by (with_reducible repeat (first | refine blk_drewN ?_ _ | refine blk_drew ?_ | refine blk_alloc ?_ _)); exact BK130.out⟩, ⟨by repeat (first | (with_reducible first | exact HB.out | apply below_alloc | apply pw_below_drewN | apply below_drew1 | refine below_set ?_ GE129.out | refine below_set ?_ GE130.out | refine below_set ?_ GE133.out) | exact HB.out)⟩⟩
                            · replace c14 := Bool.eq_false_iff.mpr c14
                              subst c14
                              have H1 : (bakeref2_Guarded.l1 k2 x6_1 y134 ((rd_T107 (rd_L5 l1 x17_1) x23_2).f3) (((rd_T107 (rd_L5 l1 x17_1) x23_2).f0) != a0_1) l1 (l1.length : Int) x17_1 (rd_L5 l1 x17_1) ((rd_L5 l1 x17_1).length : Int) (wrap64 (x23_2 + 1)) a0_0 a0_1 a0_2 x131000_1) = some r := by rw [if_neg (show ¬ (false = true) by decide)] at H; exact H
                              clear H
                              have H := H1
                              clear H1
                              have H' := Aside0.mk H
                              clear H
                              have p132 : 0 ≤ (x23_2 : Int) := of_decide_eq_true (by first | (with_reducible assumption) | assumption)
                              have q132 : x23_2 < ((rd_L5 l1 x17_1).length : Int) := of_decide_eq_true (by first | (with_reducible assumption) | assumption)
                              obtain ⟨ad132, A132_2, c132_2, e132, hx132_0, hx132_1, hx132_2, hx132_3, hl132_2, hi132_2⟩ := at_T107 (Kd.V_reads' HO_21.out).2.2 x23_2 p132 q132
                              cases e132
                              obtain ⟨ce132, hce132, hMe132, hcc132⟩ := Kd.V_get HO_21.out z107 x23_2 p132 (by first | exact q132 | exact of_decide_eq_true (by first | (with_reducible assumption) | assumption) | (have e_ := (Kd.V_reads' HO_21.out).1; omega))
                              obtain ⟨ua132_2, uc132_2, rfl, ul132_2, ge132_2⟩ := k107_openF hMe132
                              have hv132_2 := hcc132 2 _ rfl
                              rw [add_field _ _ 2 (by omega)] at hv132_2
                              replace hv132_2 := Option.some.inj (hv132_2.symm.trans hx132_2)
                              injection hv132_2 with hva_ hvn_ hvc_
                              rw [hva_] at ge132_2
                              rw [hvc_] at ul132_2
                              have HL132_2 := Aside0.mk (show Kd.V (Kd.int .u8) 5 _ w.heap.size _ _ ((rd_T107 (rd_L5 l1 x17_1) x23_2).f2) from Kd.V_mk ul132_2 ge132_2)
                              clear hva_ hvn_ hvc_ ge132_2 ul132_2
                              clear hcc132 hce132
                              have HR132_2 := Aside0.mk hi132_2
                              have HC132_2 := Aside0.mk hl132_2
                              clear hi132_2 hl132_2
                              replace p132 := eq_true p132
                              replace q132 := eq_true q132
                              try go_wp2_with (first | ((with_reducible refine gate_dst (N := 13) rfl ?_); (try (refine gate_guard (by rfl) ?_; dsimp only)); refine box_event ?hg (N := 13) ?hd (cs := #[.int .i64 0, .int .i64 0, .slice none 0 0, .bool false]) (t := 107) ?hr ?_; (case hd => rfl); (case hg => rfl); (case hr => first | (go_simp; done) | (go_simp; rfl)); intro gb133 hg w25 hbox hb; have n0_ := Aside0.mk (Kd.N_below (Kd.N_elderB (by (with_reducible repeat (first | apply Kd.N_alloc | apply Kd.N_drewN | apply Kd.N_drew)); exact HO_9.out) gb133 (Nat.le_of_eq hg.symm)) hb); have n1_ := Aside0.mk (Kd.V_below (Kd.V_elderB (by (with_reducible repeat (first | apply Kd.V_alloc | apply Kd.V_drewN | apply Kd.V_drew)); exact HO_15.out) gb133 (Nat.le_of_eq hg.symm)) hb); have n2_ := Aside0.mk (Kd.V_below (Kd.V_elderB (by (with_reducible repeat (first | apply Kd.V_alloc | apply Kd.V_drewN | apply Kd.V_drew)); exact HO_21.out) gb133 (Nat.le_of_eq hg.symm)) hb); have n3_ := Aside0.mk (Kd.N_below (Kd.N_elderB (by (with_reducible repeat (first | apply Kd.N_alloc | apply Kd.N_drewN | apply Kd.N_drew)); exact HO_131000.out) gb133 (Nat.le_of_eq hg.symm)) hb); have n4_ := Aside0.mk (Kd.V_below (Kd.V_elderB (by (with_reducible repeat (first | apply Kd.V_alloc | apply Kd.V_drewN | apply Kd.V_drew)); exact HL132_2.out) gb133 (Nat.le_of_eq hg.symm)) hb); have n5_ := Aside0.mk (blk_below (g := gb129) (o := .cells #[.int .i64 a0_0, .int .i64 a0_1, .int .i64 a0_2] 29 (0, 0)) (by (with_reducible repeat (first | refine blk_drewN ?_ _ | refine blk_drew ?_ | refine blk_alloc ?_ _)); exact BK129.out) hb); have n6_ := Aside0.mk (blk_below (g := gb130) (o := .cells #[u131000] 80 (0, 0)) (by (with_reducible repeat (first | refine blk_drewN ?_ _ | refine blk_drew ?_ | refine blk_alloc ?_ _)); exact BK130.out) hb); have n7_ := Aside0.mk (Kd.C_below (by repeat (first | (with_reducible exact HR132_2.out) | (with_reducible refine Kd.C_alloc ?_ _) | (with_reducible refine Kd.C_drewN ?_ _) | (with_reducible refine Kd.C_drew ?_) | exact HR132_2.out)) hb); have n8_ := Aside0.mk (below_step (by repeat (first | (with_reducible first | exact HB.out | apply below_alloc | apply pw_below_drewN | apply below_drew1 | refine below_set ?_ GE129.out | refine below_set ?_ GE130.out) | exact HB.out)) hb); have n9_ := Aside0.mk (hbox); have n10_ := Aside0.mk ((by rw [hg]; exact (below_size (by repeat (first | (with_reducible first | exact HB.out | apply below_alloc | apply pw_below_drewN | apply below_drew1 | refine below_set ?_ GE129.out | refine below_set ?_ GE130.out) | exact HB.out))) : w.heap.size ≤ gb133)); have n11_ := Aside0.mk ((by rw [hg]; exact (below_size (by repeat (first | (with_reducible first | exact HB.out | apply below_alloc | apply pw_below_drewN | apply below_drew1 | refine below_set ?_ GE129.out | refine below_set ?_ GE130.out) | exact HB.out))) : w.heap.size ≤ gb133)); have n12_ := Aside0.mk ((by rw [hg]; exact Nat.ne_of_lt (blk_lt (g := gb129) (o := .cells #[.int .i64 a0_0, .int .i64 a0_1, .int .i64 a0_2] 29 (0, 0)) (by (with_reducible repeat (first | refine blk_drewN ?_ _ | refine blk_drew ?_ | refine blk_alloc ?_ _)); exact BK129.out)) : gb129 ≠ gb133)); have n13_ := Aside0.mk ((by rw [hg]; exact Nat.ne_of_gt (blk_lt (g := gb129) (o := .cells #[.int .i64 a0_0, .int .i64 a0_1, .int .i64 a0_2] 29 (0, 0)) (by (with_reducible repeat (first | refine blk_drewN ?_ _ | refine blk_drew ?_ | refine blk_alloc ?_ _)); exact BK129.out)) : gb133 ≠ gb129)); have n14_ := Aside0.mk ((by rw [hg]; exact Nat.ne_of_lt (blk_lt (g := gb130) (o := .cells #[u131000] 80 (0, 0)) (by (with_reducible repeat (first | refine blk_drewN ?_ _ | refine blk_drew ?_ | refine blk_alloc ?_ _)); exact BK130.out)) : gb130 ≠ gb133)); have n15_ := Aside0.mk ((by rw [hg]; exact Nat.ne_of_gt (blk_lt (g := gb130) (o := .cells #[u131000] 80 (0, 0)) (by (with_reducible repeat (first | refine blk_drewN ?_ _ | refine blk_drew ?_ | refine blk_alloc ?_ _)); exact BK130.out)) : gb133 ≠ gb130)); clear HO_9; clear HO_15; clear HO_21; clear HO_131000; clear HL132_2; clear BK129; clear BK130; clear HR132_2; clear HB; have HO_9 := n0_; have HO_15 := n1_; have HO_21 := n2_; have HO_131000 := n3_; have HL132_2 := n4_; have BK129 := n5_; have BK130 := n6_; have HR132_2 := n7_; have HB := n8_; have BK133 := n9_; have GW133 := n10_; have GE133 := n11_; have NB129_133 := n12_; have NB133_129 := n13_; have NB130_133 := n14_; have NB133_130 := n15_; clear n0_ n1_ n2_ n3_ n4_ n5_ n6_ n7_ n8_ n9_ n10_ n11_ n12_ n13_ n14_ n15_; clear hb hbox hg; have hnb26 := NB133_129.out; have hnc26 := NB129_133.out; have hnb27 := NB133_130.out; have hnc27 := NB130_133.out; have hcz28_0 : w25.cell? ⟨gb133, 0, none⟩ = some (.int .i64 0) := (blk_cell BK133.out 0).trans rfl; have hcz28_1 : w25.cell? ⟨gb133, 1, none⟩ = some (.int .i64 0) := (blk_cell BK133.out 1).trans rfl; have hcz28_2 : w25.cell? ⟨gb133, 2, none⟩ = some (.slice none 0 0) := (blk_cell BK133.out 2).trans rfl; have hcz28_3 : w25.cell? ⟨gb133, 3, none⟩ = some (.bool false) := (blk_cell BK133.out 3).trans rfl; have hfz28_0 := blk_frozen BK133.out 0; have hfz28_1 := blk_frozen BK133.out 1; have hfz28_2 := blk_frozen BK133.out 2; have hfz28_3 := blk_frozen BK133.out 3) | ((with_reducible refine gate_store (t := 107) (p := 13) rfl ?_); refine store_event (t := 107) (p := 13) (v := ?vo_w29) (w1 := ((((w25.setCell ⟨gb133, 0, none⟩ (.int .i64 ((rd_T107 (rd_L5 l1 x17_1) x23_2).f0))).setCell ⟨gb133, 1, none⟩ (.int .i64 ((rd_T107 (rd_L5 l1 x17_1) x23_2).f1))).setCell ⟨gb133, 2, none⟩ (.slice A132_2 ((rd_T107 (rd_L5 l1 x17_1) x23_2).f2).length c132_2)).setCell ⟨gb133, 3, none⟩ (.bool ((rd_T107 (rd_L5 l1 x17_1) x23_2).f3)))) ?hg ?ho ?hn ?hr ?_; (case ho => rfl); (case hg => rfl); (case hn => rfl); (case hr => first | (go_simp; done) | (go_simp; rfl)); intro w29 hw; have n0_ : Aside0 (Kd.N k107 107 w29 w.heap.size (fun k_ => (P1_ k_ ∨ w.heap.size ≤ k_) ∧ some k_ ≠ (u131000 : Value).ownBlock ∧ k_ ≠ gb129 ∧ k_ ≠ gb130 ∧ k_ ≠ gb133) u9 x9_2) := ⟨(by rw [hw]; exact (by (with_reducible repeat (first | apply Kd.N_alloc | apply Kd.N_drewN | apply Kd.N_drew)); exact Kd.N_mono (Kd.N_far (p := ⟨gb133, 3, none⟩) (Kd.N_far (p := ⟨gb133, 2, none⟩) (Kd.N_far (p := ⟨gb133, 1, none⟩) (Kd.N_far (p := ⟨gb133, 0, none⟩) (Kd.N_mono HO_9.out (fun k_ hk => (⟨hk, hk.2⟩ : _ ∧ k_ ≠ gb133))) (fun _ hk => hk.2) (.int .i64 ((rd_T107 (rd_L5 l1 x17_1) x23_2).f0))) (fun _ hk => hk.2) (.int .i64 ((rd_T107 (rd_L5 l1 x17_1) x23_2).f1))) (fun _ hk => hk.2) (.slice A132_2 ((rd_T107 (rd_L5 l1 x17_1) x23_2).f2).length c132_2)) (fun _ hk => hk.2) (.bool ((rd_T107 (rd_L5 l1 x17_1) x23_2).f3))) (fun _ hk => ⟨hk.1.1.1, ⟨hk.1.1.2.1, ⟨hk.1.1.2.2.1, ⟨hk.1.1.2.2.2, hk.1.2⟩⟩⟩⟩)))⟩; have n1_ : Aside0 (Kd.V (Kd.slice 107 k107) 102 w29 w.heap.size (fun k_ => (P1_ k_ ∨ w.heap.size ≤ k_) ∧ some k_ ≠ (u9 : Value).ownBlock ∧ some k_ ≠ (u131000 : Value).ownBlock ∧ k_ ≠ gb129 ∧ k_ ≠ gb130 ∧ k_ ≠ gb133) (.slice (some ad131) l1.length c1) l1) := ⟨(by rw [hw]; exact (by (with_reducible repeat (first | apply Kd.V_alloc | apply Kd.V_drewN | apply Kd.V_drew)); exact Kd.V_mono (Kd.V_far (p := ⟨gb133, 3, none⟩) (Kd.V_far (p := ⟨gb133, 2, none⟩) (Kd.V_far (p := ⟨gb133, 1, none⟩) (Kd.V_far (p := ⟨gb133, 0, none⟩) (Kd.V_mono HO_15.out (fun k_ hk => (⟨hk, hk.2⟩ : _ ∧ k_ ≠ gb133))) (fun _ hk => hk.2) (.int .i64 ((rd_T107 (rd_L5 l1 x17_1) x23_2).f0))) (fun _ hk => hk.2) (.int .i64 ((rd_T107 (rd_L5 l1 x17_1) x23_2).f1))) (fun _ hk => hk.2) (.slice A132_2 ((rd_T107 (rd_L5 l1 x17_1) x23_2).f2).length c132_2)) (fun _ hk => hk.2) (.bool ((rd_T107 (rd_L5 l1 x17_1) x23_2).f3))) (fun _ hk => ⟨hk.1.1.1, ⟨hk.1.1.2.1, ⟨hk.1.1.2.2.1, ⟨hk.1.1.2.2.2.1, ⟨hk.1.1.2.2.2.2, hk.1.2⟩⟩⟩⟩⟩)))⟩; have n2_ : Aside0 (Kd.V k107 107 w29 w.heap.size (fun k_ => (P1_ k_ ∨ w.heap.size ≤ k_) ∧ some k_ ≠ (u9 : Value).ownBlock ∧ some k_ ≠ (u131000 : Value).ownBlock ∧ k_ ≠ gb129 ∧ k_ ≠ gb130 ∧ k_ ≠ gb133) (.slice (some ad132) (rd_L5 l1 x17_1).length c131_0) (rd_L5 l1 x17_1)) := ⟨(by rw [hw]; exact (by (with_reducible repeat (first | apply Kd.V_alloc | apply Kd.V_drewN | apply Kd.V_drew)); exact Kd.V_mono (Kd.V_far (p := ⟨gb133, 3, none⟩) (Kd.V_far (p := ⟨gb133, 2, none⟩) (Kd.V_far (p := ⟨gb133, 1, none⟩) (Kd.V_far (p := ⟨gb133, 0, none⟩) (Kd.V_mono HO_21.out (fun k_ hk => (⟨hk, hk.2⟩ : _ ∧ k_ ≠ gb133))) (fun _ hk => hk.2) (.int .i64 ((rd_T107 (rd_L5 l1 x17_1) x23_2).f0))) (fun _ hk => hk.2) (.int .i64 ((rd_T107 (rd_L5 l1 x17_1) x23_2).f1))) (fun _ hk => hk.2) (.slice A132_2 ((rd_T107 (rd_L5 l1 x17_1) x23_2).f2).length c132_2)) (fun _ hk => hk.2) (.bool ((rd_T107 (rd_L5 l1 x17_1) x23_2).f3))) (fun _ hk => ⟨hk.1.1.1, ⟨hk.1.1.2.1, ⟨hk.1.1.2.2.1, ⟨hk.1.1.2.2.2.1, ⟨hk.1.1.2.2.2.2, hk.1.2⟩⟩⟩⟩⟩)))⟩; have n3_ : Aside0 (Kd.N (Kd.slice 5 (Kd.int .u8)) 22 w29 w.heap.size (fun k_ => (P1_ k_ ∨ w.heap.size ≤ k_) ∧ some k_ ≠ (u9 : Value).ownBlock ∧ k_ ≠ gb129 ∧ k_ ≠ gb130 ∧ k_ ≠ gb133) u131000 x131000_1) := ⟨(by rw [hw]; exact (by (with_reducible repeat (first | apply Kd.N_alloc | apply Kd.N_drewN | apply Kd.N_drew)); exact Kd.N_mono (Kd.N_far (p := ⟨gb133, 3, none⟩) (Kd.N_far (p := ⟨gb133, 2, none⟩) (Kd.N_far (p := ⟨gb133, 1, none⟩) (Kd.N_far (p := ⟨gb133, 0, none⟩) (Kd.N_mono HO_131000.out (fun k_ hk => (⟨hk, hk.2⟩ : _ ∧ k_ ≠ gb133))) (fun _ hk => hk.2) (.int .i64 ((rd_T107 (rd_L5 l1 x17_1) x23_2).f0))) (fun _ hk => hk.2) (.int .i64 ((rd_T107 (rd_L5 l1 x17_1) x23_2).f1))) (fun _ hk => hk.2) (.slice A132_2 ((rd_T107 (rd_L5 l1 x17_1) x23_2).f2).length c132_2)) (fun _ hk => hk.2) (.bool ((rd_T107 (rd_L5 l1 x17_1) x23_2).f3))) (fun _ hk => ⟨hk.1.1.1, ⟨hk.1.1.2.1, ⟨hk.1.1.2.2.1, ⟨hk.1.1.2.2.2, hk.1.2⟩⟩⟩⟩)))⟩; have n4_ : Aside0 (Kd.V (Kd.int .u8) 5 w29 w.heap.size (fun k_ => (P1_ k_ ∨ w.heap.size ≤ k_) ∧ some k_ ≠ (u9 : Value).ownBlock ∧ some k_ ≠ (u131000 : Value).ownBlock ∧ k_ ≠ gb129 ∧ k_ ≠ gb130 ∧ k_ ≠ gb133) (.slice A132_2 ((rd_T107 (rd_L5 l1 x17_1) x23_2).f2).length c132_2) ((rd_T107 (rd_L5 l1 x17_1) x23_2).f2)) := ⟨(by rw [hw]; exact (by (with_reducible repeat (first | apply Kd.V_alloc | apply Kd.V_drewN | apply Kd.V_drew)); exact Kd.V_mono (Kd.V_far (p := ⟨gb133, 3, none⟩) (Kd.V_far (p := ⟨gb133, 2, none⟩) (Kd.V_far (p := ⟨gb133, 1, none⟩) (Kd.V_far (p := ⟨gb133, 0, none⟩) (Kd.V_mono HL132_2.out (fun k_ hk => (⟨hk, hk.2⟩ : _ ∧ k_ ≠ gb133))) (fun _ hk => hk.2) (.int .i64 ((rd_T107 (rd_L5 l1 x17_1) x23_2).f0))) (fun _ hk => hk.2) (.int .i64 ((rd_T107 (rd_L5 l1 x17_1) x23_2).f1))) (fun _ hk => hk.2) (.slice A132_2 ((rd_T107 (rd_L5 l1 x17_1) x23_2).f2).length c132_2)) (fun _ hk => hk.2) (.bool ((rd_T107 (rd_L5 l1 x17_1) x23_2).f3))) (fun _ hk => ⟨hk.1.1.1, ⟨hk.1.1.2.1, ⟨hk.1.1.2.2.1, ⟨hk.1.1.2.2.2.1, ⟨hk.1.1.2.2.2.2, hk.1.2⟩⟩⟩⟩⟩)))⟩; have n5_ : Aside0 (w29.heap[gb129]? = some (.cells #[.int .i64 a0_0, .int .i64 a0_1, .int .i64 a0_2] 29 (0, 0))) := ⟨(by rw [hw]; exact (by (with_reducible repeat (first | refine blk_drewN ?_ _ | refine blk_drew ?_ | refine blk_alloc ?_ _)); refine blk_far ?_ NB129_133.out _; (with_reducible repeat (first | refine blk_drewN ?_ _ | refine blk_drew ?_ | refine blk_alloc ?_ _)); refine blk_far ?_ NB129_133.out _; (with_reducible repeat (first | refine blk_drewN ?_ _ | refine blk_drew ?_ | refine blk_alloc ?_ _)); refine blk_far ?_ NB129_133.out _; (with_reducible repeat (first | refine blk_drewN ?_ _ | refine blk_drew ?_ | refine blk_alloc ?_ _)); refine blk_far ?_ NB129_133.out _; (with_reducible repeat (first | refine blk_drewN ?_ _ | refine blk_drew ?_ | refine blk_alloc ?_ _)); exact BK129.out))⟩; have n6_ : Aside0 (w29.heap[gb130]? = some (.cells #[u131000] 80 (0, 0))) := ⟨(by rw [hw]; exact (by (with_reducible repeat (first | refine blk_drewN ?_ _ | refine blk_drew ?_ | refine blk_alloc ?_ _)); refine blk_far ?_ NB130_133.out _; (with_reducible repeat (first | refine blk_drewN ?_ _ | refine blk_drew ?_ | refine blk_alloc ?_ _)); refine blk_far ?_ NB130_133.out _; (with_reducible repeat (first | refine blk_drewN ?_ _ | refine blk_drew ?_ | refine blk_alloc ?_ _)); refine blk_far ?_ NB130_133.out _; (with_reducible repeat (first | refine blk_drewN ?_ _ | refine blk_drew ?_ | refine blk_alloc ?_ _)); refine blk_far ?_ NB130_133.out _; (with_reducible repeat (first | refine blk_drewN ?_ _ | refine blk_drew ?_ | refine blk_alloc ?_ _)); exact BK130.out))⟩; have n7_ : Aside0 (w29.heap[gb133]? = some (.cells #[.int .i64 ((rd_T107 (rd_L5 l1 x17_1) x23_2).f0), .int .i64 ((rd_T107 (rd_L5 l1 x17_1) x23_2).f1), .slice A132_2 ((rd_T107 (rd_L5 l1 x17_1) x23_2).f2).length c132_2, .bool ((rd_T107 (rd_L5 l1 x17_1) x23_2).f3)] 107 (0, 0))) := ⟨(by rw [hw]; exact (by (with_reducible repeat (first | refine blk_drewN ?_ _ | refine blk_drew ?_ | refine blk_alloc ?_ _)); refine blk_put (cs := #[.int .i64 ((rd_T107 (rd_L5 l1 x17_1) x23_2).f0), .int .i64 ((rd_T107 (rd_L5 l1 x17_1) x23_2).f1), .slice A132_2 ((rd_T107 (rd_L5 l1 x17_1) x23_2).f2).length c132_2, .bool false]) ?_ 3 _ rfl; (with_reducible repeat (first | refine blk_drewN ?_ _ | refine blk_drew ?_ | refine blk_alloc ?_ _)); refine blk_put (cs := #[.int .i64 ((rd_T107 (rd_L5 l1 x17_1) x23_2).f0), .int .i64 ((rd_T107 (rd_L5 l1 x17_1) x23_2).f1), .slice none 0 0, .bool false]) ?_ 2 _ rfl; (with_reducible repeat (first | refine blk_drewN ?_ _ | refine blk_drew ?_ | refine blk_alloc ?_ _)); refine blk_put (cs := #[.int .i64 ((rd_T107 (rd_L5 l1 x17_1) x23_2).f0), .int .i64 0, .slice none 0 0, .bool false]) ?_ 1 _ rfl; (with_reducible repeat (first | refine blk_drewN ?_ _ | refine blk_drew ?_ | refine blk_alloc ?_ _)); refine blk_put (cs := #[.int .i64 0, .int .i64 0, .slice none 0 0, .bool false]) ?_ 0 _ rfl; (with_reducible repeat (first | refine blk_drewN ?_ _ | refine blk_drew ?_ | refine blk_alloc ?_ _)); exact BK133.out))⟩; have n8_ : Aside0 (Below w.heap.size w w29) := ⟨(by rw [hw]; exact (by repeat (first | (with_reducible first | exact HB.out | apply below_alloc | apply pw_below_drewN | apply below_drew1 | refine below_set ?_ GE129.out | refine below_set ?_ GE130.out | refine below_set ?_ GE133.out) | exact HB.out)))⟩; clear hw; clear HO_9; clear HO_15; clear HO_21; clear HO_131000; clear HL132_2; clear BK129; clear BK130; clear BK133; clear HB; have HO_9 := n0_; have HO_15 := n1_; have HO_21 := n2_; have HO_131000 := n3_; have HL132_2 := n4_; have BK129 := n5_; have BK130 := n6_; have BK133 := n7_; have HB := n8_; clear n0_ n1_ n2_ n3_ n4_ n5_ n6_ n7_ n8_; have hcz30_0 : w29.cell? ⟨gb133, 0, none⟩ = some (.int .i64 ((rd_T107 (rd_L5 l1 x17_1) x23_2).f0)) := (blk_cell BK133.out 0).trans rfl; have hcz30_1 : w29.cell? ⟨gb133, 1, none⟩ = some (.int .i64 ((rd_T107 (rd_L5 l1 x17_1) x23_2).f1)) := (blk_cell BK133.out 1).trans rfl; have hcz30_2 : w29.cell? ⟨gb133, 2, none⟩ = some (.slice A132_2 ((rd_T107 (rd_L5 l1 x17_1) x23_2).f2).length c132_2) := (blk_cell BK133.out 2).trans rfl; have hcz30_3 : w29.cell? ⟨gb133, 3, none⟩ = some (.bool ((rd_T107 (rd_L5 l1 x17_1) x23_2).f3)) := (blk_cell BK133.out 3).trans rfl; have hfz30_0 := blk_frozen BK133.out 0; have hfz30_1 := blk_frozen BK133.out 1; have hfz30_2 := blk_frozen BK133.out 2; have hfz30_3 := blk_frozen BK133.out 3; have hnb31 := NB129_130.out; have hnc31 := NB130_129.out; have hcz32_0 : w29.cell? ⟨gb129, 0, none⟩ = some (.int .i64 a0_0) := (blk_cell BK129.out 0).trans rfl; have hcz32_1 : w29.cell? ⟨gb129, 1, none⟩ = some (.int .i64 a0_1) := (blk_cell BK129.out 1).trans rfl; have hcz32_2 : w29.cell? ⟨gb129, 2, none⟩ = some (.int .i64 a0_2) := (blk_cell BK129.out 2).trans rfl; have hfz32_0 := blk_frozen BK129.out 0; have hfz32_1 := blk_frozen BK129.out 1; have hfz32_2 := blk_frozen BK129.out 2) | ((with_reducible refine gate_builtin (b := .append) (xs := #[.tmp 32, .tmp 34]) rfl ?_); (try (refine gate_guard (by rfl) ?_; dsimp only)); at_builtin; refine Kd.N_append k107 (w0 := w) w.heap.size rfl (.tmp 32) (.tmp 34) 102 107 (.agg #[(.int .i64 0), (.int .i64 0), (.slice none 0 0), (.bool false)]) 48 rfl Try.underlying102 info107 rfl (by decide) (by omega) u9 x9_2 (⟨(rd_T107 (rd_L5 l1 x17_1) x23_2).f0, (rd_T107 (rd_L5 l1 x17_1) x23_2).f1, (rd_T107 (rd_L5 l1 x17_1) x23_2).f2, (rd_T107 (rd_L5 l1 x17_1) x23_2).f3⟩ : S107) [.int .i64 ((rd_T107 (rd_L5 l1 x17_1) x23_2).f0), .int .i64 ((rd_T107 (rd_L5 l1 x17_1) x23_2).f1), .slice A132_2 ((rd_T107 (rd_L5 l1 x17_1) x23_2).f2).length c132_2, .bool ((rd_T107 (rd_L5 l1 x17_1) x23_2).f3)] (fun k_ => (P1_ k_ ∨ w.heap.size ≤ k_) ∧ some k_ ≠ (u131000 : Value).ownBlock ∧ k_ ≠ gb129 ∧ k_ ≠ gb130 ∧ k_ ≠ gb133) (fun k_ => ((fun k_ => (P1_ k_ ∨ w.heap.size ≤ k_) ∧ some k_ ≠ (u131000 : Value).ownBlock ∧ k_ ≠ gb129 ∧ k_ ≠ gb130 ∧ k_ ≠ gb133)) k_ ∧ some k_ ≠ (u9 : Value).ownBlock) rfl rfl ?aP (fun _ hk => hk) ?aF ?aO ?aB ?aS ?aL ?_; (case aP => exact (k107_mkF _ _ (⟨(rd_T107 (rd_L5 l1 x17_1) x23_2).f0, (rd_T107 (rd_L5 l1 x17_1) x23_2).f1, (rd_T107 (rd_L5 l1 x17_1) x23_2).f2, (rd_T107 (rd_L5 l1 x17_1) x23_2).f3⟩ : S107) (Kd.V_reads' (Kd.V_mono (ok' := (fun k_ => ((fun k_ => (P1_ k_ ∨ w.heap.size ≤ k_) ∧ some k_ ≠ (u131000 : Value).ownBlock ∧ k_ ≠ gb129 ∧ k_ ≠ gb130 ∧ k_ ≠ gb133)) k_ ∧ some k_ ≠ (u9 : Value).ownBlock)) (HL132_2.out) (fun k_ hk => ⟨⟨hk.1, ⟨hk.2.2.1, ⟨hk.2.2.2.1, ⟨hk.2.2.2.2.1, hk.2.2.2.2.2⟩⟩⟩⟩, hk.2.1⟩))).2.1 (Kd.V_F (Kd.V_mono (ok' := (fun k_ => ((fun k_ => (P1_ k_ ∨ w.heap.size ≤ k_) ∧ some k_ ≠ (u131000 : Value).ownBlock ∧ k_ ≠ gb129 ∧ k_ ≠ gb130 ∧ k_ ≠ gb133)) k_ ∧ some k_ ≠ (u9 : Value).ownBlock)) (HL132_2.out) (fun k_ hk => ⟨⟨hk.1, ⟨hk.2.2.1, ⟨hk.2.2.2.1, ⟨hk.2.2.2.2.1, hk.2.2.2.2.2⟩⟩⟩⟩, hk.2.1⟩))))); (case aB => exact (by repeat (first | (with_reducible first | exact HB.out | apply below_alloc | apply pw_below_drewN | apply below_drew1 | refine below_set ?_ GE129.out | refine below_set ?_ GE130.out | refine below_set ?_ GE133.out) | exact HB.out))); (case aF => exact (fun k_ hk => ⟨(.inr (Nat.le_trans (below_size (by repeat (first | (with_reducible first | exact HB.out | apply below_alloc | apply pw_below_drewN | apply below_drew1 | refine below_set ?_ GE129.out | refine below_set ?_ GE130.out | refine below_set ?_ GE133.out) | exact HB.out))) hk)), Kd.fresh' (Kd.N_lt (by (with_reducible repeat (first | apply Kd.N_alloc | apply Kd.N_drewN | apply Kd.N_drew)); exact HO_131000.out)) k_ hk, Kd.freshB (g := gb129) (o := .cells #[.int .i64 a0_0, .int .i64 a0_1, .int .i64 a0_2] 29 (0, 0)) (by (with_reducible repeat (first | refine blk_drewN ?_ _ | refine blk_drew ?_ | refine blk_alloc ?_ _)); exact BK129.out) k_ hk, Kd.freshB (g := gb130) (o := .cells #[u131000] 80 (0, 0)) (by (with_reducible repeat (first | refine blk_drewN ?_ _ | refine blk_drew ?_ | refine blk_alloc ?_ _)); exact BK130.out) k_ hk, Kd.freshB (g := gb133) (o := .cells #[.int .i64 ((rd_T107 (rd_L5 l1 x17_1) x23_2).f0), .int .i64 ((rd_T107 (rd_L5 l1 x17_1) x23_2).f1), .slice A132_2 ((rd_T107 (rd_L5 l1 x17_1) x23_2).f2).length c132_2, .bool ((rd_T107 (rd_L5 l1 x17_1) x23_2).f3)] 107 (0, 0)) (by (with_reducible repeat (first | refine blk_drewN ?_ _ | refine blk_drew ?_ | refine blk_alloc ?_ _)); exact BK133.out) k_ hk⟩)); (case aO => exact (by (with_reducible repeat (first | apply Kd.N_alloc | apply Kd.N_drewN | apply Kd.N_drew)); exact HO_9.out)); (case aS => exact (below_size (by repeat (first | (with_reducible first | exact HB.out | apply below_alloc | apply pw_below_drewN | apply below_drew1 | refine below_set ?_ GE129.out | refine below_set ?_ GE130.out | refine below_set ?_ GE133.out) | exact HB.out)))); (case aL => have := LMc12.out; omega); intro v135 w33 ho hb hg hat; rw [← Ny134.out] at ho; have n0_ := Aside0.mk (Kd.V_afterv (ok := (fun k_ => (P1_ k_ ∨ w.heap.size ≤ k_) ∧ some k_ ≠ (u131000 : Value).ownBlock ∧ k_ ≠ gb129 ∧ k_ ≠ gb130 ∧ k_ ≠ gb133)) (by (with_reducible repeat (first | apply Kd.V_alloc | apply Kd.V_drewN | apply Kd.V_drew)); exact Kd.V_mono HO_15.out (fun _ hk => ⟨⟨hk.1, ⟨hk.2.2.1, ⟨hk.2.2.2.1, ⟨hk.2.2.2.2.1, hk.2.2.2.2.2⟩⟩⟩⟩, hk.2.1⟩)) hg hat); have n1_ := Aside0.mk (Kd.V_afterv (ok := (fun k_ => (P1_ k_ ∨ w.heap.size ≤ k_) ∧ some k_ ≠ (u131000 : Value).ownBlock ∧ k_ ≠ gb129 ∧ k_ ≠ gb130 ∧ k_ ≠ gb133)) (by (with_reducible repeat (first | apply Kd.V_alloc | apply Kd.V_drewN | apply Kd.V_drew)); exact Kd.V_mono HO_21.out (fun _ hk => ⟨⟨hk.1, ⟨hk.2.2.1, ⟨hk.2.2.2.1, ⟨hk.2.2.2.2.1, hk.2.2.2.2.2⟩⟩⟩⟩, hk.2.1⟩)) hg hat); have n2_ := Aside0.mk (Kd.N_afterv (ok := (fun k_ => (P1_ k_ ∨ w.heap.size ≤ k_) ∧ k_ ≠ gb129 ∧ k_ ≠ gb130 ∧ k_ ≠ gb133)) (by (with_reducible repeat (first | apply Kd.N_alloc | apply Kd.N_drewN | apply Kd.N_drew)); exact Kd.N_mono HO_131000.out (fun _ hk => ⟨⟨hk.1, ⟨hk.2.2.1, ⟨hk.2.2.2.1, hk.2.2.2.2⟩⟩⟩, hk.2.1⟩)) hg hat); have n3_ := Aside0.mk (blk_grown (g := gb129) (o := .cells #[.int .i64 a0_0, .int .i64 a0_1, .int .i64 a0_2] 29 (0, 0)) (by (with_reducible repeat (first | refine blk_drewN ?_ _ | refine blk_drew ?_ | refine blk_alloc ?_ _)); exact BK129.out) hg (Kd.N_ne HO_9.out BK129.out (by decide))); have n4_ := Aside0.mk (blk_grown (g := gb130) (o := .cells #[u131000] 80 (0, 0)) (by (with_reducible repeat (first | refine blk_drewN ?_ _ | refine blk_drew ?_ | refine blk_alloc ?_ _)); exact BK130.out) hg (Kd.N_ne HO_9.out BK130.out (by decide))); have n5_ := Aside0.mk (Kd.V_afterv (ok := (fun k_ => (P1_ k_ ∨ w.heap.size ≤ k_) ∧ some k_ ≠ (u131000 : Value).ownBlock ∧ k_ ≠ gb129 ∧ k_ ≠ gb130 ∧ k_ ≠ gb133)) (by (with_reducible repeat (first | apply Kd.V_alloc | apply Kd.V_drewN | apply Kd.V_drew)); exact Kd.V_mono HL132_2.out (fun _ hk => ⟨⟨hk.1, ⟨hk.2.2.1, ⟨hk.2.2.2.1, ⟨hk.2.2.2.2.1, hk.2.2.2.2.2⟩⟩⟩⟩, hk.2.1⟩)) hg hat); have n6_ := Aside0.mk (blk_grown (g := gb133) (o := .cells #[.int .i64 ((rd_T107 (rd_L5 l1 x17_1) x23_2).f0), .int .i64 ((rd_T107 (rd_L5 l1 x17_1) x23_2).f1), .slice A132_2 ((rd_T107 (rd_L5 l1 x17_1) x23_2).f2).length c132_2, .bool ((rd_T107 (rd_L5 l1 x17_1) x23_2).f3)] 107 (0, 0)) (by (with_reducible repeat (first | refine blk_drewN ?_ _ | refine blk_drew ?_ | refine blk_alloc ?_ _)); exact BK133.out) hg (Kd.N_away HO_9.out (fun _ hk => hk.2.2.2.2))); have n7_ := Aside0.mk (hb); have n8_ := Aside0.mk (ho); clear HO_15; clear HO_21; clear HO_131000; clear BK129; clear BK130; clear HL132_2; clear BK133; clear HB; clear HO_9; have HO_15 := n0_; have HO_21 := n1_; have HO_131000 := n2_; have BK129 := n3_; have BK130 := n4_; have HL132_2 := n5_; have BK133 := n6_; have HB := n7_; have HO136 := n8_; clear n0_ n1_ n2_ n3_ n4_ n5_ n6_ n7_ n8_; clear ho hb hg hat) | (go_at_call 72; go_in) | (go_at_call 87; go_in) | (go_at_call 111; go_in) | ((try simp only [Exit.inBlock, Exit.then]); refine bodyPost_end (results_none rfl _ _ _) rfl ?_; simp only []; go_at_K) | ((try simp only [Exit.inBlock, Exit.then]); refine bodyPost_ret (results_none rfl _ _ _) rfl ?_; simp only []; go_at_K))
                              have n0_ := Aside0.mk (Kd.V_drew HO_15.out)
                              have n1_ := Aside0.mk (Kd.V_drew HO_21.out)
                              have n2_ := Aside0.mk (Kd.N_drew HO_131000.out)
                              have n3_ := Aside0.mk (Kd.V_drew HL132_2.out)
                              have n4_ := Aside0.mk (Kd.N_drew HO136.out)
                              have n5_ := Aside0.mk (blk_drew BK129.out)
                              have n6_ := Aside0.mk (blk_drew BK130.out)
                              have n7_ := Aside0.mk (blk_drew BK133.out)
                              have n8_ := Aside0.mk (below_drew1 HB.out)
                              clear HO_15
                              clear HO_21
                              clear HO_131000
                              clear HL132_2
                              clear HO136
                              clear BK129
                              clear BK130
                              clear BK133
                              clear HB
                              have HO_15 := n0_
                              have HO_21 := n1_
                              have HO_131000 := n2_
                              have HL132_2 := n3_
                              have HO136 := n4_
                              have BK129 := n5_
                              have BK130 := n6_
                              have BK133 := n7_
                              have HB := n8_
                              clear n0_ n1_ n2_ n3_ n4_ n5_ n6_ n7_ n8_
                              refine start_ (n := 15) (S := fun w' => w'.cell? ⟨gb133, 0, none⟩ = some (.int .i64 ((rd_T107 (rd_L5 l1 x17_1) x23_2).f0)) ∧ w'.cell? ⟨gb133, 1, none⟩ = some (.int .i64 ((rd_T107 (rd_L5 l1 x17_1) x23_2).f1)) ∧ w'.cell? ⟨gb133, 2, none⟩ = some (.slice A132_2 ((rd_T107 (rd_L5 l1 x17_1) x23_2).f2).length c132_2) ∧ w'.cell? ⟨gb133, 3, none⟩ = some (.bool ((rd_T107 (rd_L5 l1 x17_1) x23_2).f3)) ∧ w'.cell? ⟨gb129, 0, none⟩ = some (.int .i64 a0_0) ∧ w'.cell? ⟨gb129, 1, none⟩ = some (.int .i64 a0_1) ∧ w'.cell? ⟨gb129, 2, none⟩ = some (.int .i64 a0_2)) (ds := []) #[false, false, false, false, false, false, false, false, false, false, false, false, false, false, false] (by kernel_rfl) rfl rfl ⟨(blk_cell BK133.out 0).trans rfl, (blk_cell BK133.out 1).trans rfl, (blk_cell BK133.out 2).trans rfl, (blk_cell BK133.out 3).trans rfl, (blk_cell BK129.out 0).trans rfl, (blk_cell BK129.out 1).trans rfl, (blk_cell BK129.out 2).trans rfl⟩ (fun hHeld => ?_); refine with_tabW bakeref2_Guarded.tab13 bakeref2_Guarded.bits13 (fun HT_ HW_ => ?_)
                              generalize w33.drew = w34 at HO_15 HO_21 HO_131000 HL132_2 HO136 BK129 BK130 BK133 HB hHeld ⊢
                              refine pure_ (i := 0) (N := some 36) (v := ?_) (a' := ?_) #[true, false, false, false, false, false, false, false, false, false, false, false, false, false, false] rfl rfl (any_of HT_.out (by kernel_rfl)) (fun _ _ _ h => h) (Or.inl ⟨by rfl, ?_⟩) ?_ ?_
                              rotate_left
                              · intro w'
                                go_simp
                                with_reducible rfl
                              rotate_left
                              · simp only [Act.put, List.setIfInBounds_toArray, List.set_cons_zero, List.set_cons_succ, i64_w, i32_w]
                                rfl
                              refine pure_ (i := 1) (N := some 37) (v := ?_) (a' := ?_) #[true, true, false, false, false, false, false, false, false, false, false, false, false, false, false] rfl rfl (any_of HT_.out (by kernel_rfl)) (fun _ _ _ h => h) (Or.inl ⟨by rfl, ?_⟩) ?_ ?_
                              rotate_left
                              · intro w'
                                go_simp
                                with_reducible rfl
                              rotate_left
                              · simp only [Act.put, List.setIfInBounds_toArray, List.set_cons_zero, List.set_cons_succ, i64_w, i32_w]
                                rfl
                              refine pure_ (i := 2) (N := some 38) (v := ?_) (a' := ?_) #[true, true, true, false, false, false, false, false, false, false, false, false, false, false, false] rfl rfl (any_of HT_.out (by kernel_rfl)) (fun _ _ _ h => h) (Or.inl ⟨by rfl, ?_⟩) ?_ ?_
                              rotate_left
                              · intro w'
                                go_simp
                                with_reducible rfl
                              rotate_left
                              · simp only [Act.put, List.setIfInBounds_toArray, List.set_cons_zero, List.set_cons_succ, i64_w, i32_w]
                                rfl
                              refine pure_ (i := 5) (N := some 41) (v := ?_) (a' := ?_) #[true, true, true, false, false, true, false, false, false, false, false, false, false, false, false] rfl rfl (any_of HT_.out (by kernel_rfl)) (fun _ _ _ h => h) (Or.inl ⟨by rfl, ?_⟩) ?_ ?_
                              rotate_left
                              · intro w'
                                go_simp
                                with_reducible rfl
                              rotate_left
                              · simp only [Act.put, List.setIfInBounds_toArray, List.set_cons_zero, List.set_cons_succ, i64_w, i32_w]
                                rfl
                              refine pure_ (i := 6) (N := some 42) (v := ?_) (a' := ?_) #[true, true, true, false, false, true, true, false, false, false, false, false, false, false, false] rfl rfl (any_of HT_.out (by kernel_rfl)) (fun _ _ _ h => h) (Or.inl ⟨by rfl, ?_⟩) ?_ ?_
                              rotate_left
                              · intro w'
                                go_simp
                                with_reducible rfl
                              rotate_left
                              · simp only [Act.put, List.setIfInBounds_toArray, List.set_cons_zero, List.set_cons_succ, i64_w, i32_w]
                                rfl
                              refine pure_ (i := 7) (N := some 43) (v := ?_) (a' := ?_) #[true, true, true, false, false, true, true, true, false, false, false, false, false, false, false] rfl rfl (any_of HT_.out (by kernel_rfl)) (fun _ _ _ h => h) (Or.inl ⟨by rfl, ?_⟩) ?_ ?_
                              rotate_left
                              · intro w'
                                go_simp
                                with_reducible rfl
                              rotate_left
                              · simp only [Act.put, List.setIfInBounds_toArray, List.set_cons_zero, List.set_cons_succ, i64_w, i32_w]
                                rfl
                              refine pure_ (i := 9) (N := some 45) (v := ?_) (a' := ?_) #[true, true, true, false, false, true, true, true, false, true, false, false, false, false, false] rfl rfl (any_of HT_.out (by kernel_rfl)) (fun _ _ _ h => h) (Or.inl ⟨by rfl, ?_⟩) ?_ ?_
                              rotate_left
                              · intro w'
                                go_simp
                                with_reducible rfl
                              rotate_left
                              · simp only [Act.put, List.setIfInBounds_toArray, List.set_cons_zero, List.set_cons_succ, i64_w, i32_w]
                                rfl
                              refine take_ (i := 3) (N := some 39) (v := ?_) (a' := ?_) #[true, true, true, true, false, true, true, true, false, true, false, false, false, false, false] rfl rfl (take_ofW HT_.out HW_.out (by kernel_rfl)) (fun _ _ _ h => h) (Or.inl ⟨by rfl, ?_⟩) hHeld ?_ ?_
                              rotate_left
                              · rintro w' ⟨s0, s1, s2, s3, s4, s5, s6⟩
                                go_simp
                                with_reducible rfl
                              rotate_left
                              · simp only [Act.put, List.setIfInBounds_toArray, List.set_cons_zero, List.set_cons_succ, i64_w, i32_w]
                                rfl
                              refine pure_ (i := 4) (N := some 40) (v := ?_) (a' := ?_) #[true, true, true, true, true, true, true, true, false, true, false, false, false, false, false] rfl rfl (any_of HT_.out (by kernel_rfl)) (fun _ _ _ h => h) (Or.inl ⟨by rfl, ?_⟩) ?_ ?_
                              rotate_left
                              · intro w'
                                go_simp
                                with_reducible rfl
                              rotate_left
                              · simp only [Act.put, List.setIfInBounds_toArray, List.set_cons_zero, List.set_cons_succ, i64_w, i32_w]
                                rfl
                              refine pure_ (i := 13) (N := some 10) (v := ?_) (a' := ?_) #[true, true, true, true, true, true, true, true, false, true, false, false, false, true, false] rfl rfl (any_of HT_.out (by kernel_rfl)) (fun _ _ _ h => h) (Or.inl ⟨by rfl, ?_⟩) ?_ ?_
                              rotate_left
                              · intro w'
                                go_simp
                                with_reducible rfl
                              rotate_left
                              · simp only [Act.put, List.setIfInBounds_toArray, List.set_cons_zero, List.set_cons_succ, i64_w, i32_w]
                                rfl
                              refine take_ (i := 8) (N := some 44) (v := ?_) (a' := ?_) #[true, true, true, true, true, true, true, true, true, true, false, false, false, true, false] rfl rfl (take_ofW HT_.out HW_.out (by kernel_rfl)) (fun _ _ _ h => h) (Or.inl ⟨by rfl, ?_⟩) hHeld ?_ ?_
                              rotate_left
                              · rintro w' ⟨s0, s1, s2, s3, s4, s5, s6⟩
                                go_simp
                                with_reducible rfl
                              rotate_left
                              · simp only [Act.put, List.setIfInBounds_toArray, List.set_cons_zero, List.set_cons_succ, i64_w, i32_w]
                                rfl
                              refine take_ (i := 10) (N := some 46) (v := ?_) (a' := ?_) #[true, true, true, true, true, true, true, true, true, true, true, false, false, true, false] rfl rfl (take_ofW HT_.out HW_.out (by kernel_rfl)) (fun _ _ _ h => h) (Or.inl ⟨by rfl, ?_⟩) hHeld ?_ ?_
                              rotate_left
                              · rintro w' ⟨s0, s1, s2, s3, s4, s5, s6⟩
                                go_simp
                                with_reducible rfl
                              rotate_left
                              · simp only [Act.put, List.setIfInBounds_toArray, List.set_cons_zero, List.set_cons_succ, i64_w, i32_w]
                                rfl
                              refine pure_ (i := 11) (N := some 47) (v := ?_) (a' := ?_) #[true, true, true, true, true, true, true, true, true, true, true, true, false, true, false] rfl rfl (any_of HT_.out (by kernel_rfl)) (fun _ _ _ h => h) (Or.inl ⟨by rfl, ?_⟩) ?_ ?_
                              rotate_left
                              · intro w'
                                go_simp
                                with_reducible rfl
                              rotate_left
                              · simp only [Act.put, List.setIfInBounds_toArray, List.set_cons_zero, List.set_cons_succ, i64_w, i32_w]
                                rfl
                              refine pure_ (i := 12) (N := some 48) (v := ?_) (a' := ?_) #[true, true, true, true, true, true, true, true, true, true, true, true, true, true, false] rfl rfl (any_of HT_.out (by kernel_rfl)) (fun _ _ _ h => h) (Or.inl ⟨by rfl, ?_⟩) ?_ ?_
                              rotate_left
                              · intro w'
                                go_simp
                                with_reducible rfl
                              rotate_left
                              · simp only [Act.put, List.setIfInBounds_toArray, List.set_cons_zero, List.set_cons_succ, i64_w, i32_w]
                                rfl
                              refine pure_ (i := 14) (N := some 11) (v := ?_) (a' := ?_) #[true, true, true, true, true, true, true, true, true, true, true, true, true, true, true] rfl rfl (any_of HT_.out (by kernel_rfl)) (fun _ _ _ h => h) (Or.inl ⟨by rfl, ?_⟩) ?_ ?_
                              rotate_left
                              · intro w'
                                go_simp
                                with_reducible rfl
                              rotate_left
                              · simp only [Act.put, List.setIfInBounds_toArray, List.set_cons_zero, List.set_cons_succ, i64_w, i32_w]
                                rfl
                              refine done_ (done_of HT_.out (by kernel_rfl)) ?_
                              try go_wp2
                              go_roundg k2
                              case measure => have := HK1.out; have := HK2.out; omega
                              case rel => exact ⟨(y134), ((rd_T107 (rd_L5 l1 x17_1) x23_2).f3), ((((rd_T107 (rd_L5 l1 x17_1) x23_2).f0) != a0_1)), (wrap64 (x23_2 + 1)), (by first | rfl | (simp; done) | (simp [*]; done)), (by first | rfl | (simp; done) | (simp [*]; done)), (by first | rfl | (simp; done) | (simp [*]; done)), H', ⟨by have := HK1.out; have := HK2.out; omega⟩, ⟨by (with_reducible repeat (first | apply Kd.N_alloc | apply Kd.N_drewN | apply Kd.N_drew)); exact Kd.N_mono HO136.out (fun _ hk => ⟨hk.1, ⟨hk.2.1, ⟨hk.2.2.1, hk.2.2.2.1⟩⟩⟩)⟩, ⟨by (with_reducible repeat (first | apply Kd.V_alloc | apply Kd.V_drewN | apply Kd.V_drew)); exact Kd.V_mono HO_15.out (fun _ hk => ⟨hk.1.1, ⟨hk.2, ⟨hk.1.2.1, ⟨hk.1.2.2.1, hk.1.2.2.2.1⟩⟩⟩⟩)⟩, ⟨by (with_reducible repeat (first | apply Kd.V_alloc | apply Kd.V_drewN | apply Kd.V_drew)); exact Kd.V_mono HO_21.out (fun _ hk => ⟨hk.1.1, ⟨hk.2, ⟨hk.1.2.1, ⟨hk.1.2.2.1, hk.1.2.2.2.1⟩⟩⟩⟩)⟩, ⟨by (with_reducible repeat (first | apply Kd.N_alloc | apply Kd.N_drewN | apply Kd.N_drew)); exact Kd.N_mono HO_131000.out (fun _ hk => ⟨hk.1.1, ⟨hk.2, ⟨hk.1.2.1, hk.1.2.2.1⟩⟩⟩)⟩, ⟨by (with_reducible repeat (first | refine blk_drewN ?_ _ | refine blk_drew ?_ | refine blk_alloc ?_ _)); exact BK129.out⟩, ⟨by (with_reducible repeat (first | refine blk_drewN ?_ _ | refine blk_drew ?_ | refine blk_alloc ?_ _)); exact BK130.out⟩, ⟨by repeat (first | (with_reducible first | exact HB.out | apply below_alloc | apply pw_below_drewN | apply below_drew1 | refine below_set ?_ GE129.out | refine below_set ?_ GE130.out | refine below_set ?_ GE133.out) | exact HB.out)⟩⟩
                          · replace c13 := Bool.eq_false_iff.mpr c13
                            subst c13
                            have H1 : (if x11_2 = true then (bakeref2_Guarded.l1 k2 x6_1 y134 false true l1 (l1.length : Int) x17_1 (rd_L5 l1 x17_1) ((rd_L5 l1 x17_1).length : Int) (wrap64 (x23_2 + 1)) a0_0 a0_1 a0_2 x131000_1) else (bakeref2_Guarded.l1 k2 x6_1 y134 false (((rd_T107 (rd_L5 l1 x17_1) x23_2).f0) != a0_1) l1 (l1.length : Int) x17_1 (rd_L5 l1 x17_1) ((rd_L5 l1 x17_1).length : Int) (wrap64 (x23_2 + 1)) a0_0 a0_1 a0_2 x131000_1)) = some r := by rw [if_neg (show ¬ (false = true) by decide)] at H; exact H
                            clear H
                            have H := H1
                            clear H1
                            by_cases c35 : x11_2 = true
                            · subst c35
                              have H1 : (bakeref2_Guarded.l1 k2 x6_1 y134 false true l1 (l1.length : Int) x17_1 (rd_L5 l1 x17_1) ((rd_L5 l1 x17_1).length : Int) (wrap64 (x23_2 + 1)) a0_0 a0_1 a0_2 x131000_1) = some r := by rw [if_pos rfl] at H; exact H
                              clear H
                              have H := H1
                              clear H1
                              have H' := Aside0.mk H
                              clear H
                              have p132 : 0 ≤ (x23_2 : Int) := of_decide_eq_true (by first | (with_reducible assumption) | assumption)
                              have q132 : x23_2 < ((rd_L5 l1 x17_1).length : Int) := of_decide_eq_true (by first | (with_reducible assumption) | assumption)
                              obtain ⟨ad132, A132_2, c132_2, e132, hx132_0, hx132_1, hx132_2, hx132_3, hl132_2, hi132_2⟩ := at_T107 (Kd.V_reads' HO_21.out).2.2 x23_2 p132 q132
                              cases e132
                              obtain ⟨ce132, hce132, hMe132, hcc132⟩ := Kd.V_get HO_21.out z107 x23_2 p132 (by first | exact q132 | exact of_decide_eq_true (by first | (with_reducible assumption) | assumption) | (have e_ := (Kd.V_reads' HO_21.out).1; omega))
                              obtain ⟨ua132_2, uc132_2, rfl, ul132_2, ge132_2⟩ := k107_openF hMe132
                              have hv132_2 := hcc132 2 _ rfl
                              rw [add_field _ _ 2 (by omega)] at hv132_2
                              replace hv132_2 := Option.some.inj (hv132_2.symm.trans hx132_2)
                              injection hv132_2 with hva_ hvn_ hvc_
                              rw [hva_] at ge132_2
                              rw [hvc_] at ul132_2
                              have HL132_2 := Aside0.mk (show Kd.V (Kd.int .u8) 5 _ w.heap.size _ _ ((rd_T107 (rd_L5 l1 x17_1) x23_2).f2) from Kd.V_mk ul132_2 ge132_2)
                              clear hva_ hvn_ hvc_ ge132_2 ul132_2
                              clear hcc132 hce132
                              have HR132_2 := Aside0.mk hi132_2
                              have HC132_2 := Aside0.mk hl132_2
                              clear hi132_2 hl132_2
                              replace p132 := eq_true p132
                              replace q132 := eq_true q132
                              try go_wp2_with (first | ((with_reducible refine gate_dst (N := 13) rfl ?_); (try (refine gate_guard (by rfl) ?_; dsimp only)); refine box_event ?hg (N := 13) ?hd (cs := #[.int .i64 0, .int .i64 0, .slice none 0 0, .bool false]) (t := 107) ?hr ?_; (case hd => rfl); (case hg => rfl); (case hr => first | (go_simp; done) | (go_simp; rfl)); intro gb133 hg w36 hbox hb; have n0_ := Aside0.mk (Kd.N_below (Kd.N_elderB (by (with_reducible repeat (first | apply Kd.N_alloc | apply Kd.N_drewN | apply Kd.N_drew)); exact HO_9.out) gb133 (Nat.le_of_eq hg.symm)) hb); have n1_ := Aside0.mk (Kd.V_below (Kd.V_elderB (by (with_reducible repeat (first | apply Kd.V_alloc | apply Kd.V_drewN | apply Kd.V_drew)); exact HO_15.out) gb133 (Nat.le_of_eq hg.symm)) hb); have n2_ := Aside0.mk (Kd.V_below (Kd.V_elderB (by (with_reducible repeat (first | apply Kd.V_alloc | apply Kd.V_drewN | apply Kd.V_drew)); exact HO_21.out) gb133 (Nat.le_of_eq hg.symm)) hb); have n3_ := Aside0.mk (Kd.N_below (Kd.N_elderB (by (with_reducible repeat (first | apply Kd.N_alloc | apply Kd.N_drewN | apply Kd.N_drew)); exact HO_131000.out) gb133 (Nat.le_of_eq hg.symm)) hb); have n4_ := Aside0.mk (Kd.V_below (Kd.V_elderB (by (with_reducible repeat (first | apply Kd.V_alloc | apply Kd.V_drewN | apply Kd.V_drew)); exact HL132_2.out) gb133 (Nat.le_of_eq hg.symm)) hb); have n5_ := Aside0.mk (blk_below (g := gb129) (o := .cells #[.int .i64 a0_0, .int .i64 a0_1, .int .i64 a0_2] 29 (0, 0)) (by (with_reducible repeat (first | refine blk_drewN ?_ _ | refine blk_drew ?_ | refine blk_alloc ?_ _)); exact BK129.out) hb); have n6_ := Aside0.mk (blk_below (g := gb130) (o := .cells #[u131000] 80 (0, 0)) (by (with_reducible repeat (first | refine blk_drewN ?_ _ | refine blk_drew ?_ | refine blk_alloc ?_ _)); exact BK130.out) hb); have n7_ := Aside0.mk (Kd.C_below (by repeat (first | (with_reducible exact HR132_2.out) | (with_reducible refine Kd.C_alloc ?_ _) | (with_reducible refine Kd.C_drewN ?_ _) | (with_reducible refine Kd.C_drew ?_) | exact HR132_2.out)) hb); have n8_ := Aside0.mk (below_step (by repeat (first | (with_reducible first | exact HB.out | apply below_alloc | apply pw_below_drewN | apply below_drew1 | refine below_set ?_ GE129.out | refine below_set ?_ GE130.out) | exact HB.out)) hb); have n9_ := Aside0.mk (hbox); have n10_ := Aside0.mk ((by rw [hg]; exact (below_size (by repeat (first | (with_reducible first | exact HB.out | apply below_alloc | apply pw_below_drewN | apply below_drew1 | refine below_set ?_ GE129.out | refine below_set ?_ GE130.out) | exact HB.out))) : w.heap.size ≤ gb133)); have n11_ := Aside0.mk ((by rw [hg]; exact (below_size (by repeat (first | (with_reducible first | exact HB.out | apply below_alloc | apply pw_below_drewN | apply below_drew1 | refine below_set ?_ GE129.out | refine below_set ?_ GE130.out) | exact HB.out))) : w.heap.size ≤ gb133)); have n12_ := Aside0.mk ((by rw [hg]; exact Nat.ne_of_lt (blk_lt (g := gb129) (o := .cells #[.int .i64 a0_0, .int .i64 a0_1, .int .i64 a0_2] 29 (0, 0)) (by (with_reducible repeat (first | refine blk_drewN ?_ _ | refine blk_drew ?_ | refine blk_alloc ?_ _)); exact BK129.out)) : gb129 ≠ gb133)); have n13_ := Aside0.mk ((by rw [hg]; exact Nat.ne_of_gt (blk_lt (g := gb129) (o := .cells #[.int .i64 a0_0, .int .i64 a0_1, .int .i64 a0_2] 29 (0, 0)) (by (with_reducible repeat (first | refine blk_drewN ?_ _ | refine blk_drew ?_ | refine blk_alloc ?_ _)); exact BK129.out)) : gb133 ≠ gb129)); have n14_ := Aside0.mk ((by rw [hg]; exact Nat.ne_of_lt (blk_lt (g := gb130) (o := .cells #[u131000] 80 (0, 0)) (by (with_reducible repeat (first | refine blk_drewN ?_ _ | refine blk_drew ?_ | refine blk_alloc ?_ _)); exact BK130.out)) : gb130 ≠ gb133)); have n15_ := Aside0.mk ((by rw [hg]; exact Nat.ne_of_gt (blk_lt (g := gb130) (o := .cells #[u131000] 80 (0, 0)) (by (with_reducible repeat (first | refine blk_drewN ?_ _ | refine blk_drew ?_ | refine blk_alloc ?_ _)); exact BK130.out)) : gb133 ≠ gb130)); clear HO_9; clear HO_15; clear HO_21; clear HO_131000; clear HL132_2; clear BK129; clear BK130; clear HR132_2; clear HB; have HO_9 := n0_; have HO_15 := n1_; have HO_21 := n2_; have HO_131000 := n3_; have HL132_2 := n4_; have BK129 := n5_; have BK130 := n6_; have HR132_2 := n7_; have HB := n8_; have BK133 := n9_; have GW133 := n10_; have GE133 := n11_; have NB129_133 := n12_; have NB133_129 := n13_; have NB130_133 := n14_; have NB133_130 := n15_; clear n0_ n1_ n2_ n3_ n4_ n5_ n6_ n7_ n8_ n9_ n10_ n11_ n12_ n13_ n14_ n15_; clear hb hbox hg; have hnb37 := NB133_129.out; have hnc37 := NB129_133.out; have hnb38 := NB133_130.out; have hnc38 := NB130_133.out; have hcz39_0 : w36.cell? ⟨gb133, 0, none⟩ = some (.int .i64 0) := (blk_cell BK133.out 0).trans rfl; have hcz39_1 : w36.cell? ⟨gb133, 1, none⟩ = some (.int .i64 0) := (blk_cell BK133.out 1).trans rfl; have hcz39_2 : w36.cell? ⟨gb133, 2, none⟩ = some (.slice none 0 0) := (blk_cell BK133.out 2).trans rfl; have hcz39_3 : w36.cell? ⟨gb133, 3, none⟩ = some (.bool false) := (blk_cell BK133.out 3).trans rfl; have hfz39_0 := blk_frozen BK133.out 0; have hfz39_1 := blk_frozen BK133.out 1; have hfz39_2 := blk_frozen BK133.out 2; have hfz39_3 := blk_frozen BK133.out 3) | ((with_reducible refine gate_store (t := 107) (p := 13) rfl ?_); refine store_event (t := 107) (p := 13) (v := ?vo_w40) (w1 := ((((w36.setCell ⟨gb133, 0, none⟩ (.int .i64 ((rd_T107 (rd_L5 l1 x17_1) x23_2).f0))).setCell ⟨gb133, 1, none⟩ (.int .i64 ((rd_T107 (rd_L5 l1 x17_1) x23_2).f1))).setCell ⟨gb133, 2, none⟩ (.slice A132_2 ((rd_T107 (rd_L5 l1 x17_1) x23_2).f2).length c132_2)).setCell ⟨gb133, 3, none⟩ (.bool ((rd_T107 (rd_L5 l1 x17_1) x23_2).f3)))) ?hg ?ho ?hn ?hr ?_; (case ho => rfl); (case hg => rfl); (case hn => rfl); (case hr => first | (go_simp; done) | (go_simp; rfl)); intro w40 hw; have n0_ : Aside0 (Kd.N k107 107 w40 w.heap.size (fun k_ => (P1_ k_ ∨ w.heap.size ≤ k_) ∧ some k_ ≠ (u131000 : Value).ownBlock ∧ k_ ≠ gb129 ∧ k_ ≠ gb130 ∧ k_ ≠ gb133) u9 x9_2) := ⟨(by rw [hw]; exact (by (with_reducible repeat (first | apply Kd.N_alloc | apply Kd.N_drewN | apply Kd.N_drew)); exact Kd.N_mono (Kd.N_far (p := ⟨gb133, 3, none⟩) (Kd.N_far (p := ⟨gb133, 2, none⟩) (Kd.N_far (p := ⟨gb133, 1, none⟩) (Kd.N_far (p := ⟨gb133, 0, none⟩) (Kd.N_mono HO_9.out (fun k_ hk => (⟨hk, hk.2⟩ : _ ∧ k_ ≠ gb133))) (fun _ hk => hk.2) (.int .i64 ((rd_T107 (rd_L5 l1 x17_1) x23_2).f0))) (fun _ hk => hk.2) (.int .i64 ((rd_T107 (rd_L5 l1 x17_1) x23_2).f1))) (fun _ hk => hk.2) (.slice A132_2 ((rd_T107 (rd_L5 l1 x17_1) x23_2).f2).length c132_2)) (fun _ hk => hk.2) (.bool ((rd_T107 (rd_L5 l1 x17_1) x23_2).f3))) (fun _ hk => ⟨hk.1.1.1, ⟨hk.1.1.2.1, ⟨hk.1.1.2.2.1, ⟨hk.1.1.2.2.2, hk.1.2⟩⟩⟩⟩)))⟩; have n1_ : Aside0 (Kd.V (Kd.slice 107 k107) 102 w40 w.heap.size (fun k_ => (P1_ k_ ∨ w.heap.size ≤ k_) ∧ some k_ ≠ (u9 : Value).ownBlock ∧ some k_ ≠ (u131000 : Value).ownBlock ∧ k_ ≠ gb129 ∧ k_ ≠ gb130 ∧ k_ ≠ gb133) (.slice (some ad131) l1.length c1) l1) := ⟨(by rw [hw]; exact (by (with_reducible repeat (first | apply Kd.V_alloc | apply Kd.V_drewN | apply Kd.V_drew)); exact Kd.V_mono (Kd.V_far (p := ⟨gb133, 3, none⟩) (Kd.V_far (p := ⟨gb133, 2, none⟩) (Kd.V_far (p := ⟨gb133, 1, none⟩) (Kd.V_far (p := ⟨gb133, 0, none⟩) (Kd.V_mono HO_15.out (fun k_ hk => (⟨hk, hk.2⟩ : _ ∧ k_ ≠ gb133))) (fun _ hk => hk.2) (.int .i64 ((rd_T107 (rd_L5 l1 x17_1) x23_2).f0))) (fun _ hk => hk.2) (.int .i64 ((rd_T107 (rd_L5 l1 x17_1) x23_2).f1))) (fun _ hk => hk.2) (.slice A132_2 ((rd_T107 (rd_L5 l1 x17_1) x23_2).f2).length c132_2)) (fun _ hk => hk.2) (.bool ((rd_T107 (rd_L5 l1 x17_1) x23_2).f3))) (fun _ hk => ⟨hk.1.1.1, ⟨hk.1.1.2.1, ⟨hk.1.1.2.2.1, ⟨hk.1.1.2.2.2.1, ⟨hk.1.1.2.2.2.2, hk.1.2⟩⟩⟩⟩⟩)))⟩; have n2_ : Aside0 (Kd.V k107 107 w40 w.heap.size (fun k_ => (P1_ k_ ∨ w.heap.size ≤ k_) ∧ some k_ ≠ (u9 : Value).ownBlock ∧ some k_ ≠ (u131000 : Value).ownBlock ∧ k_ ≠ gb129 ∧ k_ ≠ gb130 ∧ k_ ≠ gb133) (.slice (some ad132) (rd_L5 l1 x17_1).length c131_0) (rd_L5 l1 x17_1)) := ⟨(by rw [hw]; exact (by (with_reducible repeat (first | apply Kd.V_alloc | apply Kd.V_drewN | apply Kd.V_drew)); exact Kd.V_mono (Kd.V_far (p := ⟨gb133, 3, none⟩) (Kd.V_far (p := ⟨gb133, 2, none⟩) (Kd.V_far (p := ⟨gb133, 1, none⟩) (Kd.V_far (p := ⟨gb133, 0, none⟩) (Kd.V_mono HO_21.out (fun k_ hk => (⟨hk, hk.2⟩ : _ ∧ k_ ≠ gb133))) (fun _ hk => hk.2) (.int .i64 ((rd_T107 (rd_L5 l1 x17_1) x23_2).f0))) (fun _ hk => hk.2) (.int .i64 ((rd_T107 (rd_L5 l1 x17_1) x23_2).f1))) (fun _ hk => hk.2) (.slice A132_2 ((rd_T107 (rd_L5 l1 x17_1) x23_2).f2).length c132_2)) (fun _ hk => hk.2) (.bool ((rd_T107 (rd_L5 l1 x17_1) x23_2).f3))) (fun _ hk => ⟨hk.1.1.1, ⟨hk.1.1.2.1, ⟨hk.1.1.2.2.1, ⟨hk.1.1.2.2.2.1, ⟨hk.1.1.2.2.2.2, hk.1.2⟩⟩⟩⟩⟩)))⟩; have n3_ : Aside0 (Kd.N (Kd.slice 5 (Kd.int .u8)) 22 w40 w.heap.size (fun k_ => (P1_ k_ ∨ w.heap.size ≤ k_) ∧ some k_ ≠ (u9 : Value).ownBlock ∧ k_ ≠ gb129 ∧ k_ ≠ gb130 ∧ k_ ≠ gb133) u131000 x131000_1) := ⟨(by rw [hw]; exact (by (with_reducible repeat (first | apply Kd.N_alloc | apply Kd.N_drewN | apply Kd.N_drew)); exact Kd.N_mono (Kd.N_far (p := ⟨gb133, 3, none⟩) (Kd.N_far (p := ⟨gb133, 2, none⟩) (Kd.N_far (p := ⟨gb133, 1, none⟩) (Kd.N_far (p := ⟨gb133, 0, none⟩) (Kd.N_mono HO_131000.out (fun k_ hk => (⟨hk, hk.2⟩ : _ ∧ k_ ≠ gb133))) (fun _ hk => hk.2) (.int .i64 ((rd_T107 (rd_L5 l1 x17_1) x23_2).f0))) (fun _ hk => hk.2) (.int .i64 ((rd_T107 (rd_L5 l1 x17_1) x23_2).f1))) (fun _ hk => hk.2) (.slice A132_2 ((rd_T107 (rd_L5 l1 x17_1) x23_2).f2).length c132_2)) (fun _ hk => hk.2) (.bool ((rd_T107 (rd_L5 l1 x17_1) x23_2).f3))) (fun _ hk => ⟨hk.1.1.1, ⟨hk.1.1.2.1, ⟨hk.1.1.2.2.1, ⟨hk.1.1.2.2.2, hk.1.2⟩⟩⟩⟩)))⟩; have n4_ : Aside0 (Kd.V (Kd.int .u8) 5 w40 w.heap.size (fun k_ => (P1_ k_ ∨ w.heap.size ≤ k_) ∧ some k_ ≠ (u9 : Value).ownBlock ∧ some k_ ≠ (u131000 : Value).ownBlock ∧ k_ ≠ gb129 ∧ k_ ≠ gb130 ∧ k_ ≠ gb133) (.slice A132_2 ((rd_T107 (rd_L5 l1 x17_1) x23_2).f2).length c132_2) ((rd_T107 (rd_L5 l1 x17_1) x23_2).f2)) := ⟨(by rw [hw]; exact (by (with_reducible repeat (first | apply Kd.V_alloc | apply Kd.V_drewN | apply Kd.V_drew)); exact Kd.V_mono (Kd.V_far (p := ⟨gb133, 3, none⟩) (Kd.V_far (p := ⟨gb133, 2, none⟩) (Kd.V_far (p := ⟨gb133, 1, none⟩) (Kd.V_far (p := ⟨gb133, 0, none⟩) (Kd.V_mono HL132_2.out (fun k_ hk => (⟨hk, hk.2⟩ : _ ∧ k_ ≠ gb133))) (fun _ hk => hk.2) (.int .i64 ((rd_T107 (rd_L5 l1 x17_1) x23_2).f0))) (fun _ hk => hk.2) (.int .i64 ((rd_T107 (rd_L5 l1 x17_1) x23_2).f1))) (fun _ hk => hk.2) (.slice A132_2 ((rd_T107 (rd_L5 l1 x17_1) x23_2).f2).length c132_2)) (fun _ hk => hk.2) (.bool ((rd_T107 (rd_L5 l1 x17_1) x23_2).f3))) (fun _ hk => ⟨hk.1.1.1, ⟨hk.1.1.2.1, ⟨hk.1.1.2.2.1, ⟨hk.1.1.2.2.2.1, ⟨hk.1.1.2.2.2.2, hk.1.2⟩⟩⟩⟩⟩)))⟩; have n5_ : Aside0 (w40.heap[gb129]? = some (.cells #[.int .i64 a0_0, .int .i64 a0_1, .int .i64 a0_2] 29 (0, 0))) := ⟨(by rw [hw]; exact (by (with_reducible repeat (first | refine blk_drewN ?_ _ | refine blk_drew ?_ | refine blk_alloc ?_ _)); refine blk_far ?_ NB129_133.out _; (with_reducible repeat (first | refine blk_drewN ?_ _ | refine blk_drew ?_ | refine blk_alloc ?_ _)); refine blk_far ?_ NB129_133.out _; (with_reducible repeat (first | refine blk_drewN ?_ _ | refine blk_drew ?_ | refine blk_alloc ?_ _)); refine blk_far ?_ NB129_133.out _; (with_reducible repeat (first | refine blk_drewN ?_ _ | refine blk_drew ?_ | refine blk_alloc ?_ _)); refine blk_far ?_ NB129_133.out _; (with_reducible repeat (first | refine blk_drewN ?_ _ | refine blk_drew ?_ | refine blk_alloc ?_ _)); exact BK129.out))⟩; have n6_ : Aside0 (w40.heap[gb130]? = some (.cells #[u131000] 80 (0, 0))) := ⟨(by rw [hw]; exact (by (with_reducible repeat (first | refine blk_drewN ?_ _ | refine blk_drew ?_ | refine blk_alloc ?_ _)); refine blk_far ?_ NB130_133.out _; (with_reducible repeat (first | refine blk_drewN ?_ _ | refine blk_drew ?_ | refine blk_alloc ?_ _)); refine blk_far ?_ NB130_133.out _; (with_reducible repeat (first | refine blk_drewN ?_ _ | refine blk_drew ?_ | refine blk_alloc ?_ _)); refine blk_far ?_ NB130_133.out _; (with_reducible repeat (first | refine blk_drewN ?_ _ | refine blk_drew ?_ | refine blk_alloc ?_ _)); refine blk_far ?_ NB130_133.out _; (with_reducible repeat (first | refine blk_drewN ?_ _ | refine blk_drew ?_ | refine blk_alloc ?_ _)); exact BK130.out))⟩; have n7_ : Aside0 (w40.heap[gb133]? = some (.cells #[.int .i64 ((rd_T107 (rd_L5 l1 x17_1) x23_2).f0), .int .i64 ((rd_T107 (rd_L5 l1 x17_1) x23_2).f1), .slice A132_2 ((rd_T107 (rd_L5 l1 x17_1) x23_2).f2).length c132_2, .bool ((rd_T107 (rd_L5 l1 x17_1) x23_2).f3)] 107 (0, 0))) := ⟨(by rw [hw]; exact (by (with_reducible repeat (first | refine blk_drewN ?_ _ | refine blk_drew ?_ | refine blk_alloc ?_ _)); refine blk_put (cs := #[.int .i64 ((rd_T107 (rd_L5 l1 x17_1) x23_2).f0), .int .i64 ((rd_T107 (rd_L5 l1 x17_1) x23_2).f1), .slice A132_2 ((rd_T107 (rd_L5 l1 x17_1) x23_2).f2).length c132_2, .bool false]) ?_ 3 _ rfl; (with_reducible repeat (first | refine blk_drewN ?_ _ | refine blk_drew ?_ | refine blk_alloc ?_ _)); refine blk_put (cs := #[.int .i64 ((rd_T107 (rd_L5 l1 x17_1) x23_2).f0), .int .i64 ((rd_T107 (rd_L5 l1 x17_1) x23_2).f1), .slice none 0 0, .bool false]) ?_ 2 _ rfl; (with_reducible repeat (first | refine blk_drewN ?_ _ | refine blk_drew ?_ | refine blk_alloc ?_ _)); refine blk_put (cs := #[.int .i64 ((rd_T107 (rd_L5 l1 x17_1) x23_2).f0), .int .i64 0, .slice none 0 0, .bool false]) ?_ 1 _ rfl; (with_reducible repeat (first | refine blk_drewN ?_ _ | refine blk_drew ?_ | refine blk_alloc ?_ _)); refine blk_put (cs := #[.int .i64 0, .int .i64 0, .slice none 0 0, .bool false]) ?_ 0 _ rfl; (with_reducible repeat (first | refine blk_drewN ?_ _ | refine blk_drew ?_ | refine blk_alloc ?_ _)); exact BK133.out))⟩; have n8_ : Aside0 (Below w.heap.size w w40) := ⟨(by rw [hw]; exact (by repeat (first | (with_reducible first | exact HB.out | apply below_alloc | apply pw_below_drewN | apply below_drew1 | refine below_set ?_ GE129.out | refine below_set ?_ GE130.out | refine below_set ?_ GE133.out) | exact HB.out)))⟩; clear hw; clear HO_9; clear HO_15; clear HO_21; clear HO_131000; clear HL132_2; clear BK129; clear BK130; clear BK133; clear HB; have HO_9 := n0_; have HO_15 := n1_; have HO_21 := n2_; have HO_131000 := n3_; have HL132_2 := n4_; have BK129 := n5_; have BK130 := n6_; have BK133 := n7_; have HB := n8_; clear n0_ n1_ n2_ n3_ n4_ n5_ n6_ n7_ n8_; have hcz41_0 : w40.cell? ⟨gb133, 0, none⟩ = some (.int .i64 ((rd_T107 (rd_L5 l1 x17_1) x23_2).f0)) := (blk_cell BK133.out 0).trans rfl; have hcz41_1 : w40.cell? ⟨gb133, 1, none⟩ = some (.int .i64 ((rd_T107 (rd_L5 l1 x17_1) x23_2).f1)) := (blk_cell BK133.out 1).trans rfl; have hcz41_2 : w40.cell? ⟨gb133, 2, none⟩ = some (.slice A132_2 ((rd_T107 (rd_L5 l1 x17_1) x23_2).f2).length c132_2) := (blk_cell BK133.out 2).trans rfl; have hcz41_3 : w40.cell? ⟨gb133, 3, none⟩ = some (.bool ((rd_T107 (rd_L5 l1 x17_1) x23_2).f3)) := (blk_cell BK133.out 3).trans rfl; have hfz41_0 := blk_frozen BK133.out 0; have hfz41_1 := blk_frozen BK133.out 1; have hfz41_2 := blk_frozen BK133.out 2; have hfz41_3 := blk_frozen BK133.out 3; have hnb42 := NB129_130.out; have hnc42 := NB130_129.out; have hcz43_0 : w40.cell? ⟨gb129, 0, none⟩ = some (.int .i64 a0_0) := (blk_cell BK129.out 0).trans rfl; have hcz43_1 : w40.cell? ⟨gb129, 1, none⟩ = some (.int .i64 a0_1) := (blk_cell BK129.out 1).trans rfl; have hcz43_2 : w40.cell? ⟨gb129, 2, none⟩ = some (.int .i64 a0_2) := (blk_cell BK129.out 2).trans rfl; have hfz43_0 := blk_frozen BK129.out 0; have hfz43_1 := blk_frozen BK129.out 1; have hfz43_2 := blk_frozen BK129.out 2) | ((with_reducible refine gate_builtin (b := .append) (xs := #[.tmp 32, .tmp 34]) rfl ?_); (try (refine gate_guard (by rfl) ?_; dsimp only)); at_builtin; refine Kd.N_append k107 (w0 := w) w.heap.size rfl (.tmp 32) (.tmp 34) 102 107 (.agg #[(.int .i64 0), (.int .i64 0), (.slice none 0 0), (.bool false)]) 48 rfl Try.underlying102 info107 rfl (by decide) (by omega) u9 x9_2 (⟨(rd_T107 (rd_L5 l1 x17_1) x23_2).f0, (rd_T107 (rd_L5 l1 x17_1) x23_2).f1, (rd_T107 (rd_L5 l1 x17_1) x23_2).f2, (rd_T107 (rd_L5 l1 x17_1) x23_2).f3⟩ : S107) [.int .i64 ((rd_T107 (rd_L5 l1 x17_1) x23_2).f0), .int .i64 ((rd_T107 (rd_L5 l1 x17_1) x23_2).f1), .slice A132_2 ((rd_T107 (rd_L5 l1 x17_1) x23_2).f2).length c132_2, .bool ((rd_T107 (rd_L5 l1 x17_1) x23_2).f3)] (fun k_ => (P1_ k_ ∨ w.heap.size ≤ k_) ∧ some k_ ≠ (u131000 : Value).ownBlock ∧ k_ ≠ gb129 ∧ k_ ≠ gb130 ∧ k_ ≠ gb133) (fun k_ => ((fun k_ => (P1_ k_ ∨ w.heap.size ≤ k_) ∧ some k_ ≠ (u131000 : Value).ownBlock ∧ k_ ≠ gb129 ∧ k_ ≠ gb130 ∧ k_ ≠ gb133)) k_ ∧ some k_ ≠ (u9 : Value).ownBlock) rfl rfl ?aP (fun _ hk => hk) ?aF ?aO ?aB ?aS ?aL ?_; (case aP => exact (k107_mkF _ _ (⟨(rd_T107 (rd_L5 l1 x17_1) x23_2).f0, (rd_T107 (rd_L5 l1 x17_1) x23_2).f1, (rd_T107 (rd_L5 l1 x17_1) x23_2).f2, (rd_T107 (rd_L5 l1 x17_1) x23_2).f3⟩ : S107) (Kd.V_reads' (Kd.V_mono (ok' := (fun k_ => ((fun k_ => (P1_ k_ ∨ w.heap.size ≤ k_) ∧ some k_ ≠ (u131000 : Value).ownBlock ∧ k_ ≠ gb129 ∧ k_ ≠ gb130 ∧ k_ ≠ gb133)) k_ ∧ some k_ ≠ (u9 : Value).ownBlock)) (HL132_2.out) (fun k_ hk => ⟨⟨hk.1, ⟨hk.2.2.1, ⟨hk.2.2.2.1, ⟨hk.2.2.2.2.1, hk.2.2.2.2.2⟩⟩⟩⟩, hk.2.1⟩))).2.1 (Kd.V_F (Kd.V_mono (ok' := (fun k_ => ((fun k_ => (P1_ k_ ∨ w.heap.size ≤ k_) ∧ some k_ ≠ (u131000 : Value).ownBlock ∧ k_ ≠ gb129 ∧ k_ ≠ gb130 ∧ k_ ≠ gb133)) k_ ∧ some k_ ≠ (u9 : Value).ownBlock)) (HL132_2.out) (fun k_ hk => ⟨⟨hk.1, ⟨hk.2.2.1, ⟨hk.2.2.2.1, ⟨hk.2.2.2.2.1, hk.2.2.2.2.2⟩⟩⟩⟩, hk.2.1⟩))))); (case aB => exact (by repeat (first | (with_reducible first | exact HB.out | apply below_alloc | apply pw_below_drewN | apply below_drew1 | refine below_set ?_ GE129.out | refine below_set ?_ GE130.out | refine below_set ?_ GE133.out) | exact HB.out))); (case aF => exact (fun k_ hk => ⟨(.inr (Nat.le_trans (below_size (by repeat (first | (with_reducible first | exact HB.out | apply below_alloc | apply pw_below_drewN | apply below_drew1 | refine below_set ?_ GE129.out | refine below_set ?_ GE130.out | refine below_set ?_ GE133.out) | exact HB.out))) hk)), Kd.fresh' (Kd.N_lt (by (with_reducible repeat (first | apply Kd.N_alloc | apply Kd.N_drewN | apply Kd.N_drew)); exact HO_131000.out)) k_ hk, Kd.freshB (g := gb129) (o := .cells #[.int .i64 a0_0, .int .i64 a0_1, .int .i64 a0_2] 29 (0, 0)) (by (with_reducible repeat (first | refine blk_drewN ?_ _ | refine blk_drew ?_ | refine blk_alloc ?_ _)); exact BK129.out) k_ hk, Kd.freshB (g := gb130) (o := .cells #[u131000] 80 (0, 0)) (by (with_reducible repeat (first | refine blk_drewN ?_ _ | refine blk_drew ?_ | refine blk_alloc ?_ _)); exact BK130.out) k_ hk, Kd.freshB (g := gb133) (o := .cells #[.int .i64 ((rd_T107 (rd_L5 l1 x17_1) x23_2).f0), .int .i64 ((rd_T107 (rd_L5 l1 x17_1) x23_2).f1), .slice A132_2 ((rd_T107 (rd_L5 l1 x17_1) x23_2).f2).length c132_2, .bool ((rd_T107 (rd_L5 l1 x17_1) x23_2).f3)] 107 (0, 0)) (by (with_reducible repeat (first | refine blk_drewN ?_ _ | refine blk_drew ?_ | refine blk_alloc ?_ _)); exact BK133.out) k_ hk⟩)); (case aO => exact (by (with_reducible repeat (first | apply Kd.N_alloc | apply Kd.N_drewN | apply Kd.N_drew)); exact HO_9.out)); (case aS => exact (below_size (by repeat (first | (with_reducible first | exact HB.out | apply below_alloc | apply pw_below_drewN | apply below_drew1 | refine below_set ?_ GE129.out | refine below_set ?_ GE130.out | refine below_set ?_ GE133.out) | exact HB.out)))); (case aL => have := LMc12.out; omega); intro v135 w44 ho hb hg hat; rw [← Ny134.out] at ho; have n0_ := Aside0.mk (Kd.V_afterv (ok := (fun k_ => (P1_ k_ ∨ w.heap.size ≤ k_) ∧ some k_ ≠ (u131000 : Value).ownBlock ∧ k_ ≠ gb129 ∧ k_ ≠ gb130 ∧ k_ ≠ gb133)) (by (with_reducible repeat (first | apply Kd.V_alloc | apply Kd.V_drewN | apply Kd.V_drew)); exact Kd.V_mono HO_15.out (fun _ hk => ⟨⟨hk.1, ⟨hk.2.2.1, ⟨hk.2.2.2.1, ⟨hk.2.2.2.2.1, hk.2.2.2.2.2⟩⟩⟩⟩, hk.2.1⟩)) hg hat); have n1_ := Aside0.mk (Kd.V_afterv (ok := (fun k_ => (P1_ k_ ∨ w.heap.size ≤ k_) ∧ some k_ ≠ (u131000 : Value).ownBlock ∧ k_ ≠ gb129 ∧ k_ ≠ gb130 ∧ k_ ≠ gb133)) (by (with_reducible repeat (first | apply Kd.V_alloc | apply Kd.V_drewN | apply Kd.V_drew)); exact Kd.V_mono HO_21.out (fun _ hk => ⟨⟨hk.1, ⟨hk.2.2.1, ⟨hk.2.2.2.1, ⟨hk.2.2.2.2.1, hk.2.2.2.2.2⟩⟩⟩⟩, hk.2.1⟩)) hg hat); have n2_ := Aside0.mk (Kd.N_afterv (ok := (fun k_ => (P1_ k_ ∨ w.heap.size ≤ k_) ∧ k_ ≠ gb129 ∧ k_ ≠ gb130 ∧ k_ ≠ gb133)) (by (with_reducible repeat (first | apply Kd.N_alloc | apply Kd.N_drewN | apply Kd.N_drew)); exact Kd.N_mono HO_131000.out (fun _ hk => ⟨⟨hk.1, ⟨hk.2.2.1, ⟨hk.2.2.2.1, hk.2.2.2.2⟩⟩⟩, hk.2.1⟩)) hg hat); have n3_ := Aside0.mk (blk_grown (g := gb129) (o := .cells #[.int .i64 a0_0, .int .i64 a0_1, .int .i64 a0_2] 29 (0, 0)) (by (with_reducible repeat (first | refine blk_drewN ?_ _ | refine blk_drew ?_ | refine blk_alloc ?_ _)); exact BK129.out) hg (Kd.N_ne HO_9.out BK129.out (by decide))); have n4_ := Aside0.mk (blk_grown (g := gb130) (o := .cells #[u131000] 80 (0, 0)) (by (with_reducible repeat (first | refine blk_drewN ?_ _ | refine blk_drew ?_ | refine blk_alloc ?_ _)); exact BK130.out) hg (Kd.N_ne HO_9.out BK130.out (by decide))); have n5_ := Aside0.mk (Kd.V_afterv (ok := (fun k_ => (P1_ k_ ∨ w.heap.size ≤ k_) ∧ some k_ ≠ (u131000 : Value).ownBlock ∧ k_ ≠ gb129 ∧ k_ ≠ gb130 ∧ k_ ≠ gb133)) (by (with_reducible repeat (first | apply Kd.V_alloc | apply Kd.V_drewN | apply Kd.V_drew)); exact Kd.V_mono HL132_2.out (fun _ hk => ⟨⟨hk.1, ⟨hk.2.2.1, ⟨hk.2.2.2.1, ⟨hk.2.2.2.2.1, hk.2.2.2.2.2⟩⟩⟩⟩, hk.2.1⟩)) hg hat); have n6_ := Aside0.mk (blk_grown (g := gb133) (o := .cells #[.int .i64 ((rd_T107 (rd_L5 l1 x17_1) x23_2).f0), .int .i64 ((rd_T107 (rd_L5 l1 x17_1) x23_2).f1), .slice A132_2 ((rd_T107 (rd_L5 l1 x17_1) x23_2).f2).length c132_2, .bool ((rd_T107 (rd_L5 l1 x17_1) x23_2).f3)] 107 (0, 0)) (by (with_reducible repeat (first | refine blk_drewN ?_ _ | refine blk_drew ?_ | refine blk_alloc ?_ _)); exact BK133.out) hg (Kd.N_away HO_9.out (fun _ hk => hk.2.2.2.2))); have n7_ := Aside0.mk (hb); have n8_ := Aside0.mk (ho); clear HO_15; clear HO_21; clear HO_131000; clear BK129; clear BK130; clear HL132_2; clear BK133; clear HB; clear HO_9; have HO_15 := n0_; have HO_21 := n1_; have HO_131000 := n2_; have BK129 := n3_; have BK130 := n4_; have HL132_2 := n5_; have BK133 := n6_; have HB := n7_; have HO136 := n8_; clear n0_ n1_ n2_ n3_ n4_ n5_ n6_ n7_ n8_; clear ho hb hg hat) | (go_at_call 72; go_in) | (go_at_call 87; go_in) | (go_at_call 111; go_in) | ((try simp only [Exit.inBlock, Exit.then]); refine bodyPost_end (results_none rfl _ _ _) rfl ?_; simp only []; go_at_K) | ((try simp only [Exit.inBlock, Exit.then]); refine bodyPost_ret (results_none rfl _ _ _) rfl ?_; simp only []; go_at_K))
                              have n0_ := Aside0.mk (Kd.V_drew HO_15.out)
                              have n1_ := Aside0.mk (Kd.V_drew HO_21.out)
                              have n2_ := Aside0.mk (Kd.N_drew HO_131000.out)
                              have n3_ := Aside0.mk (Kd.V_drew HL132_2.out)
                              have n4_ := Aside0.mk (Kd.N_drew HO136.out)
                              have n5_ := Aside0.mk (blk_drew BK129.out)
                              have n6_ := Aside0.mk (blk_drew BK130.out)
                              have n7_ := Aside0.mk (blk_drew BK133.out)
                              have n8_ := Aside0.mk (below_drew1 HB.out)
                              clear HO_15
                              clear HO_21
                              clear HO_131000
                              clear HL132_2
                              clear HO136
                              clear BK129
                              clear BK130
                              clear BK133
                              clear HB
                              have HO_15 := n0_
                              have HO_21 := n1_
                              have HO_131000 := n2_
                              have HL132_2 := n3_
                              have HO136 := n4_
                              have BK129 := n5_
                              have BK130 := n6_
                              have BK133 := n7_
                              have HB := n8_
                              clear n0_ n1_ n2_ n3_ n4_ n5_ n6_ n7_ n8_
                              refine start_ (n := 15) (S := fun w' => True) (ds := []) #[false, false, false, false, false, false, false, false, false, false, false, false, false, false, false] (by kernel_rfl) rfl rfl trivial (fun hHeld => ?_); refine with_tabW bakeref2_Guarded.tab13 bakeref2_Guarded.bits13 (fun HT_ HW_ => ?_)
                              generalize w44.drew = w45 at HO_15 HO_21 HO_131000 HL132_2 HO136 BK129 BK130 BK133 HB hHeld ⊢
                              refine pure_ (i := 0) (N := some 36) (v := ?_) (a' := ?_) #[true, false, false, false, false, false, false, false, false, false, false, false, false, false, false] rfl rfl (any_of HT_.out (by kernel_rfl)) (fun _ _ _ h => h) (Or.inl ⟨by rfl, ?_⟩) ?_ ?_
                              rotate_left
                              · intro w'
                                go_simp
                                with_reducible rfl
                              rotate_left
                              · simp only [Act.put, List.setIfInBounds_toArray, List.set_cons_zero, List.set_cons_succ, i64_w, i32_w]
                                rfl
                              refine pure_ (i := 1) (N := some 37) (v := ?_) (a' := ?_) #[true, true, false, false, false, false, false, false, false, false, false, false, false, false, false] rfl rfl (any_of HT_.out (by kernel_rfl)) (fun _ _ _ h => h) (Or.inl ⟨by rfl, ?_⟩) ?_ ?_
                              rotate_left
                              · intro w'
                                go_simp
                                with_reducible rfl
                              rotate_left
                              · simp only [Act.put, List.setIfInBounds_toArray, List.set_cons_zero, List.set_cons_succ, i64_w, i32_w]
                                rfl
                              refine pure_ (i := 2) (N := some 38) (v := undef) (a' := ?_) #[true, true, true, false, false, false, false, false, false, false, false, false, false, false, false] rfl rfl (any_of HT_.out (by kernel_rfl)) (fun _ _ _ h => h) (Or.inr ⟨by rfl, rfl⟩) ?_ ?_
                              rotate_left
                              · simp only [Act.put, List.setIfInBounds_toArray, List.set_cons_zero, List.set_cons_succ, i64_w, i32_w]
                                rfl
                              refine pure_ (i := 3) (N := some 39) (v := undef) (a' := ?_) #[true, true, true, true, false, false, false, false, false, false, false, false, false, false, false] rfl rfl (any_of HT_.out (by kernel_rfl)) (fun _ _ _ h => h) (Or.inr ⟨by rfl, rfl⟩) ?_ ?_
                              rotate_left
                              · simp only [Act.put, List.setIfInBounds_toArray, List.set_cons_zero, List.set_cons_succ, i64_w, i32_w]
                                rfl
                              refine pure_ (i := 4) (N := some 40) (v := ?_) (a' := ?_) #[true, true, true, true, true, false, false, false, false, false, false, false, false, false, false] rfl rfl (any_of HT_.out (by kernel_rfl)) (fun _ _ _ h => h) (Or.inl ⟨by rfl, ?_⟩) ?_ ?_
                              rotate_left
                              · intro w'
                                go_simp
                                with_reducible rfl
                              rotate_left
                              · simp only [Act.put, List.setIfInBounds_toArray, List.set_cons_zero, List.set_cons_succ, i64_w, i32_w]
                                rfl
                              refine pure_ (i := 5) (N := some 41) (v := ?_) (a' := ?_) #[true, true, true, true, true, true, false, false, false, false, false, false, false, false, false] rfl rfl (any_of HT_.out (by kernel_rfl)) (fun _ _ _ h => h) (Or.inl ⟨by rfl, ?_⟩) ?_ ?_
                              rotate_left
                              · intro w'
                                go_simp
                                with_reducible rfl
                              rotate_left
                              · simp only [Act.put, List.setIfInBounds_toArray, List.set_cons_zero, List.set_cons_succ, i64_w, i32_w]
                                rfl
                              refine pure_ (i := 6) (N := some 42) (v := ?_) (a' := ?_) #[true, true, true, true, true, true, true, false, false, false, false, false, false, false, false] rfl rfl (any_of HT_.out (by kernel_rfl)) (fun _ _ _ h => h) (Or.inl ⟨by rfl, ?_⟩) ?_ ?_
                              rotate_left
                              · intro w'
                                go_simp
                                with_reducible rfl
                              rotate_left
                              · simp only [Act.put, List.setIfInBounds_toArray, List.set_cons_zero, List.set_cons_succ, i64_w, i32_w]
                                rfl
                              refine pure_ (i := 7) (N := some 43) (v := undef) (a' := ?_) #[true, true, true, true, true, true, true, true, false, false, false, false, false, false, false] rfl rfl (any_of HT_.out (by kernel_rfl)) (fun _ _ _ h => h) (Or.inr ⟨by rfl, rfl⟩) ?_ ?_
                              rotate_left
                              · simp only [Act.put, List.setIfInBounds_toArray, List.set_cons_zero, List.set_cons_succ, i64_w, i32_w]
                                rfl
                              refine pure_ (i := 8) (N := some 44) (v := undef) (a' := ?_) #[true, true, true, true, true, true, true, true, true, false, false, false, false, false, false] rfl rfl (any_of HT_.out (by kernel_rfl)) (fun _ _ _ h => h) (Or.inr ⟨by rfl, rfl⟩) ?_ ?_
                              rotate_left
                              · simp only [Act.put, List.setIfInBounds_toArray, List.set_cons_zero, List.set_cons_succ, i64_w, i32_w]
                                rfl
                              refine pure_ (i := 9) (N := some 45) (v := undef) (a' := ?_) #[true, true, true, true, true, true, true, true, true, true, false, false, false, false, false] rfl rfl (any_of HT_.out (by kernel_rfl)) (fun _ _ _ h => h) (Or.inr ⟨by rfl, rfl⟩) ?_ ?_
                              rotate_left
                              · simp only [Act.put, List.setIfInBounds_toArray, List.set_cons_zero, List.set_cons_succ, i64_w, i32_w]
                                rfl
                              refine pure_ (i := 10) (N := some 46) (v := undef) (a' := ?_) #[true, true, true, true, true, true, true, true, true, true, true, false, false, false, false] rfl rfl (any_of HT_.out (by kernel_rfl)) (fun _ _ _ h => h) (Or.inr ⟨by rfl, rfl⟩) ?_ ?_
                              rotate_left
                              · simp only [Act.put, List.setIfInBounds_toArray, List.set_cons_zero, List.set_cons_succ, i64_w, i32_w]
                                rfl
                              refine pure_ (i := 11) (N := some 47) (v := undef) (a' := ?_) #[true, true, true, true, true, true, true, true, true, true, true, true, false, false, false] rfl rfl (any_of HT_.out (by kernel_rfl)) (fun _ _ _ h => h) (Or.inr ⟨by rfl, rfl⟩) ?_ ?_
                              rotate_left
                              · simp only [Act.put, List.setIfInBounds_toArray, List.set_cons_zero, List.set_cons_succ, i64_w, i32_w]
                                rfl
                              refine pure_ (i := 12) (N := some 48) (v := ?_) (a' := ?_) #[true, true, true, true, true, true, true, true, true, true, true, true, true, false, false] rfl rfl (any_of HT_.out (by kernel_rfl)) (fun _ _ _ h => h) (Or.inl ⟨by rfl, ?_⟩) ?_ ?_
                              rotate_left
                              · intro w'
                                go_simp
                                with_reducible rfl
                              rotate_left
                              · simp only [Act.put, List.setIfInBounds_toArray, List.set_cons_zero, List.set_cons_succ, i64_w, i32_w]
                                rfl
                              refine pure_ (i := 13) (N := some 10) (v := ?_) (a' := ?_) #[true, true, true, true, true, true, true, true, true, true, true, true, true, true, false] rfl rfl (any_of HT_.out (by kernel_rfl)) (fun _ _ _ h => h) (Or.inl ⟨by rfl, ?_⟩) ?_ ?_
                              rotate_left
                              · intro w'
                                go_simp
                                with_reducible rfl
                              rotate_left
                              · simp only [Act.put, List.setIfInBounds_toArray, List.set_cons_zero, List.set_cons_succ, i64_w, i32_w]
                                rfl
                              refine pure_ (i := 14) (N := some 11) (v := ?_) (a' := ?_) #[true, true, true, true, true, true, true, true, true, true, true, true, true, true, true] rfl rfl (any_of HT_.out (by kernel_rfl)) (fun _ _ _ h => h) (Or.inl ⟨by rfl, ?_⟩) ?_ ?_
                              rotate_left
                              · intro w'
                                go_simp
                                with_reducible rfl
                              rotate_left
                              · simp only [Act.put, List.setIfInBounds_toArray, List.set_cons_zero, List.set_cons_succ, i64_w, i32_w]
                                rfl
                              refine done_ (done_of HT_.out (by kernel_rfl)) ?_
                              try go_wp2
                              go_roundg k2
                              case measure => have := HK1.out; have := HK2.out; omega
                              case rel => exact ⟨(y134), (false), (true), (wrap64 (x23_2 + 1)), (by first | rfl | (simp; done) | (simp [*]; done)), (by first | rfl | (simp; done) | (simp [*]; done)), (by first | rfl | (simp; done) | (simp [*]; done)), H', ⟨by have := HK1.out; have := HK2.out; omega⟩, ⟨by (with_reducible repeat (first | apply Kd.N_alloc | apply Kd.N_drewN | apply Kd.N_drew)); exact Kd.N_mono HO136.out (fun _ hk => ⟨hk.1, ⟨hk.2.1, ⟨hk.2.2.1, hk.2.2.2.1⟩⟩⟩)⟩, ⟨by (with_reducible repeat (first | apply Kd.V_alloc | apply Kd.V_drewN | apply Kd.V_drew)); exact Kd.V_mono HO_15.out (fun _ hk => ⟨hk.1.1, ⟨hk.2, ⟨hk.1.2.1, ⟨hk.1.2.2.1, hk.1.2.2.2.1⟩⟩⟩⟩)⟩, ⟨by (with_reducible repeat (first | apply Kd.V_alloc | apply Kd.V_drewN | apply Kd.V_drew)); exact Kd.V_mono HO_21.out (fun _ hk => ⟨hk.1.1, ⟨hk.2, ⟨hk.1.2.1, ⟨hk.1.2.2.1, hk.1.2.2.2.1⟩⟩⟩⟩)⟩, ⟨by (with_reducible repeat (first | apply Kd.N_alloc | apply Kd.N_drewN | apply Kd.N_drew)); exact Kd.N_mono HO_131000.out (fun _ hk => ⟨hk.1.1, ⟨hk.2, ⟨hk.1.2.1, hk.1.2.2.1⟩⟩⟩)⟩, ⟨by (with_reducible repeat (first | refine blk_drewN ?_ _ | refine blk_drew ?_ | refine blk_alloc ?_ _)); exact BK129.out⟩, ⟨by (with_reducible repeat (first | refine blk_drewN ?_ _ | refine blk_drew ?_ | refine blk_alloc ?_ _)); exact BK130.out⟩, ⟨by repeat (first | (with_reducible first | exact HB.out | apply below_alloc | apply pw_below_drewN | apply below_drew1 | refine below_set ?_ GE129.out | refine below_set ?_ GE130.out | refine below_set ?_ GE133.out) | exact HB.out)⟩⟩
                            · replace c35 := Bool.eq_false_iff.mpr c35
                              subst c35
                              have H1 : (bakeref2_Guarded.l1 k2 x6_1 y134 false (((rd_T107 (rd_L5 l1 x17_1) x23_2).f0) != a0_1) l1 (l1.length : Int) x17_1 (rd_L5 l1 x17_1) ((rd_L5 l1 x17_1).length : Int) (wrap64 (x23_2 + 1)) a0_0 a0_1 a0_2 x131000_1) = some r := by rw [if_neg (show ¬ (false = true) by decide)] at H; exact H
                              clear H
                              have H := H1
                              clear H1
                              have H' := Aside0.mk H
                              clear H
                              have p132 : 0 ≤ (x23_2 : Int) := of_decide_eq_true (by first | (with_reducible assumption) | assumption)
                              have q132 : x23_2 < ((rd_L5 l1 x17_1).length : Int) := of_decide_eq_true (by first | (with_reducible assumption) | assumption)
                              obtain ⟨ad132, A132_2, c132_2, e132, hx132_0, hx132_1, hx132_2, hx132_3, hl132_2, hi132_2⟩ := at_T107 (Kd.V_reads' HO_21.out).2.2 x23_2 p132 q132
                              cases e132
                              obtain ⟨ce132, hce132, hMe132, hcc132⟩ := Kd.V_get HO_21.out z107 x23_2 p132 (by first | exact q132 | exact of_decide_eq_true (by first | (with_reducible assumption) | assumption) | (have e_ := (Kd.V_reads' HO_21.out).1; omega))
                              obtain ⟨ua132_2, uc132_2, rfl, ul132_2, ge132_2⟩ := k107_openF hMe132
                              have hv132_2 := hcc132 2 _ rfl
                              rw [add_field _ _ 2 (by omega)] at hv132_2
                              replace hv132_2 := Option.some.inj (hv132_2.symm.trans hx132_2)
                              injection hv132_2 with hva_ hvn_ hvc_
                              rw [hva_] at ge132_2
                              rw [hvc_] at ul132_2
                              have HL132_2 := Aside0.mk (show Kd.V (Kd.int .u8) 5 _ w.heap.size _ _ ((rd_T107 (rd_L5 l1 x17_1) x23_2).f2) from Kd.V_mk ul132_2 ge132_2)
                              clear hva_ hvn_ hvc_ ge132_2 ul132_2
                              clear hcc132 hce132
                              have HR132_2 := Aside0.mk hi132_2
                              have HC132_2 := Aside0.mk hl132_2
                              clear hi132_2 hl132_2
                              replace p132 := eq_true p132
                              replace q132 := eq_true q132
                              try go_wp2_with (first | ((with_reducible refine gate_dst (N := 13) rfl ?_); (try (refine gate_guard (by rfl) ?_; dsimp only)); refine box_event ?hg (N := 13) ?hd (cs := #[.int .i64 0, .int .i64 0, .slice none 0 0, .bool false]) (t := 107) ?hr ?_; (case hd => rfl); (case hg => rfl); (case hr => first | (go_simp; done) | (go_simp; rfl)); intro gb133 hg w46 hbox hb; have n0_ := Aside0.mk (Kd.N_below (Kd.N_elderB (by (with_reducible repeat (first | apply Kd.N_alloc | apply Kd.N_drewN | apply Kd.N_drew)); exact HO_9.out) gb133 (Nat.le_of_eq hg.symm)) hb); have n1_ := Aside0.mk (Kd.V_below (Kd.V_elderB (by (with_reducible repeat (first | apply Kd.V_alloc | apply Kd.V_drewN | apply Kd.V_drew)); exact HO_15.out) gb133 (Nat.le_of_eq hg.symm)) hb); have n2_ := Aside0.mk (Kd.V_below (Kd.V_elderB (by (with_reducible repeat (first | apply Kd.V_alloc | apply Kd.V_drewN | apply Kd.V_drew)); exact HO_21.out) gb133 (Nat.le_of_eq hg.symm)) hb); have n3_ := Aside0.mk (Kd.N_below (Kd.N_elderB (by (with_reducible repeat (first | apply Kd.N_alloc | apply Kd.N_drewN | apply Kd.N_drew)); exact HO_131000.out) gb133 (Nat.le_of_eq hg.symm)) hb); have n4_ := Aside0.mk (Kd.V_below (Kd.V_elderB (by (with_reducible repeat (first | apply Kd.V_alloc | apply Kd.V_drewN | apply Kd.V_drew)); exact HL132_2.out) gb133 (Nat.le_of_eq hg.symm)) hb); have n5_ := Aside0.mk (blk_below (g := gb129) (o := .cells #[.int .i64 a0_0, .int .i64 a0_1, .int .i64 a0_2] 29 (0, 0)) (by (with_reducible repeat (first | refine blk_drewN ?_ _ | refine blk_drew ?_ | refine blk_alloc ?_ _)); exact BK129.out) hb); have n6_ := Aside0.mk (blk_below (g := gb130) (o := .cells #[u131000] 80 (0, 0)) (by (with_reducible repeat (first | refine blk_drewN ?_ _ | refine blk_drew ?_ | refine blk_alloc ?_ _)); exact BK130.out) hb); have n7_ := Aside0.mk (Kd.C_below (by repeat (first | (with_reducible exact HR132_2.out) | (with_reducible refine Kd.C_alloc ?_ _) | (with_reducible refine Kd.C_drewN ?_ _) | (with_reducible refine Kd.C_drew ?_) | exact HR132_2.out)) hb); have n8_ := Aside0.mk (below_step (by repeat (first | (with_reducible first | exact HB.out | apply below_alloc | apply pw_below_drewN | apply below_drew1 | refine below_set ?_ GE129.out | refine below_set ?_ GE130.out) | exact HB.out)) hb); have n9_ := Aside0.mk (hbox); have n10_ := Aside0.mk ((by rw [hg]; exact (below_size (by repeat (first | (with_reducible first | exact HB.out | apply below_alloc | apply pw_below_drewN | apply below_drew1 | refine below_set ?_ GE129.out | refine below_set ?_ GE130.out) | exact HB.out))) : w.heap.size ≤ gb133)); have n11_ := Aside0.mk ((by rw [hg]; exact (below_size (by repeat (first | (with_reducible first | exact HB.out | apply below_alloc | apply pw_below_drewN | apply below_drew1 | refine below_set ?_ GE129.out | refine below_set ?_ GE130.out) | exact HB.out))) : w.heap.size ≤ gb133)); have n12_ := Aside0.mk ((by rw [hg]; exact Nat.ne_of_lt (blk_lt (g := gb129) (o := .cells #[.int .i64 a0_0, .int .i64 a0_1, .int .i64 a0_2] 29 (0, 0)) (by (with_reducible repeat (first | refine blk_drewN ?_ _ | refine blk_drew ?_ | refine blk_alloc ?_ _)); exact BK129.out)) : gb129 ≠ gb133)); have n13_ := Aside0.mk ((by rw [hg]; exact Nat.ne_of_gt (blk_lt (g := gb129) (o := .cells #[.int .i64 a0_0, .int .i64 a0_1, .int .i64 a0_2] 29 (0, 0)) (by (with_reducible repeat (first | refine blk_drewN ?_ _ | refine blk_drew ?_ | refine blk_alloc ?_ _)); exact BK129.out)) : gb133 ≠ gb129)); have n14_ := Aside0.mk ((by rw [hg]; exact Nat.ne_of_lt (blk_lt (g := gb130) (o := .cells #[u131000] 80 (0, 0)) (by (with_reducible repeat (first | refine blk_drewN ?_ _ | refine blk_drew ?_ | refine blk_alloc ?_ _)); exact BK130.out)) : gb130 ≠ gb133)); have n15_ := Aside0.mk ((by rw [hg]; exact Nat.ne_of_gt (blk_lt (g := gb130) (o := .cells #[u131000] 80 (0, 0)) (by (with_reducible repeat (first | refine blk_drewN ?_ _ | refine blk_drew ?_ | refine blk_alloc ?_ _)); exact BK130.out)) : gb133 ≠ gb130)); clear HO_9; clear HO_15; clear HO_21; clear HO_131000; clear HL132_2; clear BK129; clear BK130; clear HR132_2; clear HB; have HO_9 := n0_; have HO_15 := n1_; have HO_21 := n2_; have HO_131000 := n3_; have HL132_2 := n4_; have BK129 := n5_; have BK130 := n6_; have HR132_2 := n7_; have HB := n8_; have BK133 := n9_; have GW133 := n10_; have GE133 := n11_; have NB129_133 := n12_; have NB133_129 := n13_; have NB130_133 := n14_; have NB133_130 := n15_; clear n0_ n1_ n2_ n3_ n4_ n5_ n6_ n7_ n8_ n9_ n10_ n11_ n12_ n13_ n14_ n15_; clear hb hbox hg; have hnb47 := NB133_129.out; have hnc47 := NB129_133.out; have hnb48 := NB133_130.out; have hnc48 := NB130_133.out; have hcz49_0 : w46.cell? ⟨gb133, 0, none⟩ = some (.int .i64 0) := (blk_cell BK133.out 0).trans rfl; have hcz49_1 : w46.cell? ⟨gb133, 1, none⟩ = some (.int .i64 0) := (blk_cell BK133.out 1).trans rfl; have hcz49_2 : w46.cell? ⟨gb133, 2, none⟩ = some (.slice none 0 0) := (blk_cell BK133.out 2).trans rfl; have hcz49_3 : w46.cell? ⟨gb133, 3, none⟩ = some (.bool false) := (blk_cell BK133.out 3).trans rfl; have hfz49_0 := blk_frozen BK133.out 0; have hfz49_1 := blk_frozen BK133.out 1; have hfz49_2 := blk_frozen BK133.out 2; have hfz49_3 := blk_frozen BK133.out 3) | ((with_reducible refine gate_store (t := 107) (p := 13) rfl ?_); refine store_event (t := 107) (p := 13) (v := ?vo_w50) (w1 := ((((w46.setCell ⟨gb133, 0, none⟩ (.int .i64 ((rd_T107 (rd_L5 l1 x17_1) x23_2).f0))).setCell ⟨gb133, 1, none⟩ (.int .i64 ((rd_T107 (rd_L5 l1 x17_1) x23_2).f1))).setCell ⟨gb133, 2, none⟩ (.slice A132_2 ((rd_T107 (rd_L5 l1 x17_1) x23_2).f2).length c132_2)).setCell ⟨gb133, 3, none⟩ (.bool ((rd_T107 (rd_L5 l1 x17_1) x23_2).f3)))) ?hg ?ho ?hn ?hr ?_; (case ho => rfl); (case hg => rfl); (case hn => rfl); (case hr => first | (go_simp; done) | (go_simp; rfl)); intro w50 hw; have n0_ : Aside0 (Kd.N k107 107 w50 w.heap.size (fun k_ => (P1_ k_ ∨ w.heap.size ≤ k_) ∧ some k_ ≠ (u131000 : Value).ownBlock ∧ k_ ≠ gb129 ∧ k_ ≠ gb130 ∧ k_ ≠ gb133) u9 x9_2) := ⟨(by rw [hw]; exact (by (with_reducible repeat (first | apply Kd.N_alloc | apply Kd.N_drewN | apply Kd.N_drew)); exact Kd.N_mono (Kd.N_far (p := ⟨gb133, 3, none⟩) (Kd.N_far (p := ⟨gb133, 2, none⟩) (Kd.N_far (p := ⟨gb133, 1, none⟩) (Kd.N_far (p := ⟨gb133, 0, none⟩) (Kd.N_mono HO_9.out (fun k_ hk => (⟨hk, hk.2⟩ : _ ∧ k_ ≠ gb133))) (fun _ hk => hk.2) (.int .i64 ((rd_T107 (rd_L5 l1 x17_1) x23_2).f0))) (fun _ hk => hk.2) (.int .i64 ((rd_T107 (rd_L5 l1 x17_1) x23_2).f1))) (fun _ hk => hk.2) (.slice A132_2 ((rd_T107 (rd_L5 l1 x17_1) x23_2).f2).length c132_2)) (fun _ hk => hk.2) (.bool ((rd_T107 (rd_L5 l1 x17_1) x23_2).f3))) (fun _ hk => ⟨hk.1.1.1, ⟨hk.1.1.2.1, ⟨hk.1.1.2.2.1, ⟨hk.1.1.2.2.2, hk.1.2⟩⟩⟩⟩)))⟩; have n1_ : Aside0 (Kd.V (Kd.slice 107 k107) 102 w50 w.heap.size (fun k_ => (P1_ k_ ∨ w.heap.size ≤ k_) ∧ some k_ ≠ (u9 : Value).ownBlock ∧ some k_ ≠ (u131000 : Value).ownBlock ∧ k_ ≠ gb129 ∧ k_ ≠ gb130 ∧ k_ ≠ gb133) (.slice (some ad131) l1.length c1) l1) := ⟨(by rw [hw]; exact (by (with_reducible repeat (first | apply Kd.V_alloc | apply Kd.V_drewN | apply Kd.V_drew)); exact Kd.V_mono (Kd.V_far (p := ⟨gb133, 3, none⟩) (Kd.V_far (p := ⟨gb133, 2, none⟩) (Kd.V_far (p := ⟨gb133, 1, none⟩) (Kd.V_far (p := ⟨gb133, 0, none⟩) (Kd.V_mono HO_15.out (fun k_ hk => (⟨hk, hk.2⟩ : _ ∧ k_ ≠ gb133))) (fun _ hk => hk.2) (.int .i64 ((rd_T107 (rd_L5 l1 x17_1) x23_2).f0))) (fun _ hk => hk.2) (.int .i64 ((rd_T107 (rd_L5 l1 x17_1) x23_2).f1))) (fun _ hk => hk.2) (.slice A132_2 ((rd_T107 (rd_L5 l1 x17_1) x23_2).f2).length c132_2)) (fun _ hk => hk.2) (.bool ((rd_T107 (rd_L5 l1 x17_1) x23_2).f3))) (fun _ hk => ⟨hk.1.1.1, ⟨hk.1.1.2.1, ⟨hk.1.1.2.2.1, ⟨hk.1.1.2.2.2.1, ⟨hk.1.1.2.2.2.2, hk.1.2⟩⟩⟩⟩⟩)))⟩; have n2_ : Aside0 (Kd.V k107 107 w50 w.heap.size (fun k_ => (P1_ k_ ∨ w.heap.size ≤ k_) ∧ some k_ ≠ (u9 : Value).ownBlock ∧ some k_ ≠ (u131000 : Value).ownBlock ∧ k_ ≠ gb129 ∧ k_ ≠ gb130 ∧ k_ ≠ gb133) (.slice (some ad132) (rd_L5 l1 x17_1).length c131_0) (rd_L5 l1 x17_1)) := ⟨(by rw [hw]; exact (by (with_reducible repeat (first | apply Kd.V_alloc | apply Kd.V_drewN | apply Kd.V_drew)); exact Kd.V_mono (Kd.V_far (p := ⟨gb133, 3, none⟩) (Kd.V_far (p := ⟨gb133, 2, none⟩) (Kd.V_far (p := ⟨gb133, 1, none⟩) (Kd.V_far (p := ⟨gb133, 0, none⟩) (Kd.V_mono HO_21.out (fun k_ hk => (⟨hk, hk.2⟩ : _ ∧ k_ ≠ gb133))) (fun _ hk => hk.2) (.int .i64 ((rd_T107 (rd_L5 l1 x17_1) x23_2).f0))) (fun _ hk => hk.2) (.int .i64 ((rd_T107 (rd_L5 l1 x17_1) x23_2).f1))) (fun _ hk => hk.2) (.slice A132_2 ((rd_T107 (rd_L5 l1 x17_1) x23_2).f2).length c132_2)) (fun _ hk => hk.2) (.bool ((rd_T107 (rd_L5 l1 x17_1) x23_2).f3))) (fun _ hk => ⟨hk.1.1.1, ⟨hk.1.1.2.1, ⟨hk.1.1.2.2.1, ⟨hk.1.1.2.2.2.1, ⟨hk.1.1.2.2.2.2, hk.1.2⟩⟩⟩⟩⟩)))⟩; have n3_ : Aside0 (Kd.N (Kd.slice 5 (Kd.int .u8)) 22 w50 w.heap.size (fun k_ => (P1_ k_ ∨ w.heap.size ≤ k_) ∧ some k_ ≠ (u9 : Value).ownBlock ∧ k_ ≠ gb129 ∧ k_ ≠ gb130 ∧ k_ ≠ gb133) u131000 x131000_1) := ⟨(by rw [hw]; exact (by (with_reducible repeat (first | apply Kd.N_alloc | apply Kd.N_drewN | apply Kd.N_drew)); exact Kd.N_mono (Kd.N_far (p := ⟨gb133, 3, none⟩) (Kd.N_far (p := ⟨gb133, 2, none⟩) (Kd.N_far (p := ⟨gb133, 1, none⟩) (Kd.N_far (p := ⟨gb133, 0, none⟩) (Kd.N_mono HO_131000.out (fun k_ hk => (⟨hk, hk.2⟩ : _ ∧ k_ ≠ gb133))) (fun _ hk => hk.2) (.int .i64 ((rd_T107 (rd_L5 l1 x17_1) x23_2).f0))) (fun _ hk => hk.2) (.int .i64 ((rd_T107 (rd_L5 l1 x17_1) x23_2).f1))) (fun _ hk => hk.2) (.slice A132_2 ((rd_T107 (rd_L5 l1 x17_1) x23_2).f2).length c132_2)) (fun _ hk => hk.2) (.bool ((rd_T107 (rd_L5 l1 x17_1) x23_2).f3))) (fun _ hk => ⟨hk.1.1.1, ⟨hk.1.1.2.1, ⟨hk.1.1.2.2.1, ⟨hk.1.1.2.2.2, hk.1.2⟩⟩⟩⟩)))⟩; have n4_ : Aside0 (Kd.V (Kd.int .u8) 5 w50 w.heap.size (fun k_ => (P1_ k_ ∨ w.heap.size ≤ k_) ∧ some k_ ≠ (u9 : Value).ownBlock ∧ some k_ ≠ (u131000 : Value).ownBlock ∧ k_ ≠ gb129 ∧ k_ ≠ gb130 ∧ k_ ≠ gb133) (.slice A132_2 ((rd_T107 (rd_L5 l1 x17_1) x23_2).f2).length c132_2) ((rd_T107 (rd_L5 l1 x17_1) x23_2).f2)) := ⟨(by rw [hw]; exact (by (with_reducible repeat (first | apply Kd.V_alloc | apply Kd.V_drewN | apply Kd.V_drew)); exact Kd.V_mono (Kd.V_far (p := ⟨gb133, 3, none⟩) (Kd.V_far (p := ⟨gb133, 2, none⟩) (Kd.V_far (p := ⟨gb133, 1, none⟩) (Kd.V_far (p := ⟨gb133, 0, none⟩) (Kd.V_mono HL132_2.out (fun k_ hk => (⟨hk, hk.2⟩ : _ ∧ k_ ≠ gb133))) (fun _ hk => hk.2) (.int .i64 ((rd_T107 (rd_L5 l1 x17_1) x23_2).f0))) (fun _ hk => hk.2) (.int .i64 ((rd_T107 (rd_L5 l1 x17_1) x23_2).f1))) (fun _ hk => hk.2) (.slice A132_2 ((rd_T107 (rd_L5 l1 x17_1) x23_2).f2).length c132_2)) (fun _ hk => hk.2) (.bool ((rd_T107 (rd_L5 l1 x17_1) x23_2).f3))) (fun _ hk => ⟨hk.1.1.1, ⟨hk.1.1.2.1, ⟨hk.1.1.2.2.1, ⟨hk.1.1.2.2.2.1, ⟨hk.1.1.2.2.2.2, hk.1.2⟩⟩⟩⟩⟩)))⟩; have n5_ : Aside0 (w50.heap[gb129]? = some (.cells #[.int .i64 a0_0, .int .i64 a0_1, .int .i64 a0_2] 29 (0, 0))) := ⟨(by rw [hw]; exact (by (with_reducible repeat (first | refine blk_drewN ?_ _ | refine blk_drew ?_ | refine blk_alloc ?_ _)); refine blk_far ?_ NB129_133.out _; (with_reducible repeat (first | refine blk_drewN ?_ _ | refine blk_drew ?_ | refine blk_alloc ?_ _)); refine blk_far ?_ NB129_133.out _; (with_reducible repeat (first | refine blk_drewN ?_ _ | refine blk_drew ?_ | refine blk_alloc ?_ _)); refine blk_far ?_ NB129_133.out _; (with_reducible repeat (first | refine blk_drewN ?_ _ | refine blk_drew ?_ | refine blk_alloc ?_ _)); refine blk_far ?_ NB129_133.out _; (with_reducible repeat (first | refine blk_drewN ?_ _ | refine blk_drew ?_ | refine blk_alloc ?_ _)); exact BK129.out))⟩; have n6_ : Aside0 (w50.heap[gb130]? = some (.cells #[u131000] 80 (0, 0))) := ⟨(by rw [hw]; exact (by (with_reducible repeat (first | refine blk_drewN ?_ _ | refine blk_drew ?_ | refine blk_alloc ?_ _)); refine blk_far ?_ NB130_133.out _; (with_reducible repeat (first | refine blk_drewN ?_ _ | refine blk_drew ?_ | refine blk_alloc ?_ _)); refine blk_far ?_ NB130_133.out _; (with_reducible repeat (first | refine blk_drewN ?_ _ | refine blk_drew ?_ | refine blk_alloc ?_ _)); refine blk_far ?_ NB130_133.out _; (with_reducible repeat (first | refine blk_drewN ?_ _ | refine blk_drew ?_ | refine blk_alloc ?_ _)); refine blk_far ?_ NB130_133.out _; (with_reducible repeat (first | refine blk_drewN ?_ _ | refine blk_drew ?_ | refine blk_alloc ?_ _)); exact BK130.out))⟩; have n7_ : Aside0 (w50.heap[gb133]? = some (.cells #[.int .i64 ((rd_T107 (rd_L5 l1 x17_1) x23_2).f0), .int .i64 ((rd_T107 (rd_L5 l1 x17_1) x23_2).f1), .slice A132_2 ((rd_T107 (rd_L5 l1 x17_1) x23_2).f2).length c132_2, .bool ((rd_T107 (rd_L5 l1 x17_1) x23_2).f3)] 107 (0, 0))) := ⟨(by rw [hw]; exact (by (with_reducible repeat (first | refine blk_drewN ?_ _ | refine blk_drew ?_ | refine blk_alloc ?_ _)); refine blk_put (cs := #[.int .i64 ((rd_T107 (rd_L5 l1 x17_1) x23_2).f0), .int .i64 ((rd_T107 (rd_L5 l1 x17_1) x23_2).f1), .slice A132_2 ((rd_T107 (rd_L5 l1 x17_1) x23_2).f2).length c132_2, .bool false]) ?_ 3 _ rfl; (with_reducible repeat (first | refine blk_drewN ?_ _ | refine blk_drew ?_ | refine blk_alloc ?_ _)); refine blk_put (cs := #[.int .i64 ((rd_T107 (rd_L5 l1 x17_1) x23_2).f0), .int .i64 ((rd_T107 (rd_L5 l1 x17_1) x23_2).f1), .slice none 0 0, .bool false]) ?_ 2 _ rfl; (with_reducible repeat (first | refine blk_drewN ?_ _ | refine blk_drew ?_ | refine blk_alloc ?_ _)); refine blk_put (cs := #[.int .i64 ((rd_T107 (rd_L5 l1 x17_1) x23_2).f0), .int .i64 0, .slice none 0 0, .bool false]) ?_ 1 _ rfl; (with_reducible repeat (first | refine blk_drewN ?_ _ | refine blk_drew ?_ | refine blk_alloc ?_ _)); refine blk_put (cs := #[.int .i64 0, .int .i64 0, .slice none 0 0, .bool false]) ?_ 0 _ rfl; (with_reducible repeat (first | refine blk_drewN ?_ _ | refine blk_drew ?_ | refine blk_alloc ?_ _)); exact BK133.out))⟩; have n8_ : Aside0 (Below w.heap.size w w50) := ⟨(by rw [hw]; exact (by repeat (first | (with_reducible first | exact HB.out | apply below_alloc | apply pw_below_drewN | apply below_drew1 | refine below_set ?_ GE129.out | refine below_set ?_ GE130.out | refine below_set ?_ GE133.out) | exact HB.out)))⟩; clear hw; clear HO_9; clear HO_15; clear HO_21; clear HO_131000; clear HL132_2; clear BK129; clear BK130; clear BK133; clear HB; have HO_9 := n0_; have HO_15 := n1_; have HO_21 := n2_; have HO_131000 := n3_; have HL132_2 := n4_; have BK129 := n5_; have BK130 := n6_; have BK133 := n7_; have HB := n8_; clear n0_ n1_ n2_ n3_ n4_ n5_ n6_ n7_ n8_; have hcz51_0 : w50.cell? ⟨gb133, 0, none⟩ = some (.int .i64 ((rd_T107 (rd_L5 l1 x17_1) x23_2).f0)) := (blk_cell BK133.out 0).trans rfl; have hcz51_1 : w50.cell? ⟨gb133, 1, none⟩ = some (.int .i64 ((rd_T107 (rd_L5 l1 x17_1) x23_2).f1)) := (blk_cell BK133.out 1).trans rfl; have hcz51_2 : w50.cell? ⟨gb133, 2, none⟩ = some (.slice A132_2 ((rd_T107 (rd_L5 l1 x17_1) x23_2).f2).length c132_2) := (blk_cell BK133.out 2).trans rfl; have hcz51_3 : w50.cell? ⟨gb133, 3, none⟩ = some (.bool ((rd_T107 (rd_L5 l1 x17_1) x23_2).f3)) := (blk_cell BK133.out 3).trans rfl; have hfz51_0 := blk_frozen BK133.out 0; have hfz51_1 := blk_frozen BK133.out 1; have hfz51_2 := blk_frozen BK133.out 2; have hfz51_3 := blk_frozen BK133.out 3; have hnb52 := NB129_130.out; have hnc52 := NB130_129.out; have hcz53_0 : w50.cell? ⟨gb129, 0, none⟩ = some (.int .i64 a0_0) := (blk_cell BK129.out 0).trans rfl; have hcz53_1 : w50.cell? ⟨gb129, 1, none⟩ = some (.int .i64 a0_1) := (blk_cell BK129.out 1).trans rfl; have hcz53_2 : w50.cell? ⟨gb129, 2, none⟩ = some (.int .i64 a0_2) := (blk_cell BK129.out 2).trans rfl; have hfz53_0 := blk_frozen BK129.out 0; have hfz53_1 := blk_frozen BK129.out 1; have hfz53_2 := blk_frozen BK129.out 2) | ((with_reducible refine gate_builtin (b := .append) (xs := #[.tmp 32, .tmp 34]) rfl ?_); (try (refine gate_guard (by rfl) ?_; dsimp only)); at_builtin; refine Kd.N_append k107 (w0 := w) w.heap.size rfl (.tmp 32) (.tmp 34) 102 107 (.agg #[(.int .i64 0), (.int .i64 0), (.slice none 0 0), (.bool false)]) 48 rfl Try.underlying102 info107 rfl (by decide) (by omega) u9 x9_2 (⟨(rd_T107 (rd_L5 l1 x17_1) x23_2).f0, (rd_T107 (rd_L5 l1 x17_1) x23_2).f1, (rd_T107 (rd_L5 l1 x17_1) x23_2).f2, (rd_T107 (rd_L5 l1 x17_1) x23_2).f3⟩ : S107) [.int .i64 ((rd_T107 (rd_L5 l1 x17_1) x23_2).f0), .int .i64 ((rd_T107 (rd_L5 l1 x17_1) x23_2).f1), .slice A132_2 ((rd_T107 (rd_L5 l1 x17_1) x23_2).f2).length c132_2, .bool ((rd_T107 (rd_L5 l1 x17_1) x23_2).f3)] (fun k_ => (P1_ k_ ∨ w.heap.size ≤ k_) ∧ some k_ ≠ (u131000 : Value).ownBlock ∧ k_ ≠ gb129 ∧ k_ ≠ gb130 ∧ k_ ≠ gb133) (fun k_ => ((fun k_ => (P1_ k_ ∨ w.heap.size ≤ k_) ∧ some k_ ≠ (u131000 : Value).ownBlock ∧ k_ ≠ gb129 ∧ k_ ≠ gb130 ∧ k_ ≠ gb133)) k_ ∧ some k_ ≠ (u9 : Value).ownBlock) rfl rfl ?aP (fun _ hk => hk) ?aF ?aO ?aB ?aS ?aL ?_; (case aP => exact (k107_mkF _ _ (⟨(rd_T107 (rd_L5 l1 x17_1) x23_2).f0, (rd_T107 (rd_L5 l1 x17_1) x23_2).f1, (rd_T107 (rd_L5 l1 x17_1) x23_2).f2, (rd_T107 (rd_L5 l1 x17_1) x23_2).f3⟩ : S107) (Kd.V_reads' (Kd.V_mono (ok' := (fun k_ => ((fun k_ => (P1_ k_ ∨ w.heap.size ≤ k_) ∧ some k_ ≠ (u131000 : Value).ownBlock ∧ k_ ≠ gb129 ∧ k_ ≠ gb130 ∧ k_ ≠ gb133)) k_ ∧ some k_ ≠ (u9 : Value).ownBlock)) (HL132_2.out) (fun k_ hk => ⟨⟨hk.1, ⟨hk.2.2.1, ⟨hk.2.2.2.1, ⟨hk.2.2.2.2.1, hk.2.2.2.2.2⟩⟩⟩⟩, hk.2.1⟩))).2.1 (Kd.V_F (Kd.V_mono (ok' := (fun k_ => ((fun k_ => (P1_ k_ ∨ w.heap.size ≤ k_) ∧ some k_ ≠ (u131000 : Value).ownBlock ∧ k_ ≠ gb129 ∧ k_ ≠ gb130 ∧ k_ ≠ gb133)) k_ ∧ some k_ ≠ (u9 : Value).ownBlock)) (HL132_2.out) (fun k_ hk => ⟨⟨hk.1, ⟨hk.2.2.1, ⟨hk.2.2.2.1, ⟨hk.2.2.2.2.1, hk.2.2.2.2.2⟩⟩⟩⟩, hk.2.1⟩))))); (case aB => exact (by repeat (first | (with_reducible first | exact HB.out | apply below_alloc | apply pw_below_drewN | apply below_drew1 | refine below_set ?_ GE129.out | refine below_set ?_ GE130.out | refine below_set ?_ GE133.out) | exact HB.out))); (case aF => exact (fun k_ hk => ⟨(.inr (Nat.le_trans (below_size (by repeat (first | (with_reducible first | exact HB.out | apply below_alloc | apply pw_below_drewN | apply below_drew1 | refine below_set ?_ GE129.out | refine below_set ?_ GE130.out | refine below_set ?_ GE133.out) | exact HB.out))) hk)), Kd.fresh' (Kd.N_lt (by (with_reducible repeat (first | apply Kd.N_alloc | apply Kd.N_drewN | apply Kd.N_drew)); exact HO_131000.out)) k_ hk, Kd.freshB (g := gb129) (o := .cells #[.int .i64 a0_0, .int .i64 a0_1, .int .i64 a0_2] 29 (0, 0)) (by (with_reducible repeat (first | refine blk_drewN ?_ _ | refine blk_drew ?_ | refine blk_alloc ?_ _)); exact BK129.out) k_ hk, Kd.freshB (g := gb130) (o := .cells #[u131000] 80 (0, 0)) (by (with_reducible repeat (first | refine blk_drewN ?_ _ | refine blk_drew ?_ | refine blk_alloc ?_ _)); exact BK130.out) k_ hk, Kd.freshB (g := gb133) (o := .cells #[.int .i64 ((rd_T107 (rd_L5 l1 x17_1) x23_2).f0), .int .i64 ((rd_T107 (rd_L5 l1 x17_1) x23_2).f1), .slice A132_2 ((rd_T107 (rd_L5 l1 x17_1) x23_2).f2).length c132_2, .bool ((rd_T107 (rd_L5 l1 x17_1) x23_2).f3)] 107 (0, 0)) (by (with_reducible repeat (first | refine blk_drewN ?_ _ | refine blk_drew ?_ | refine blk_alloc ?_ _)); exact BK133.out) k_ hk⟩)); (case aO => exact (by (with_reducible repeat (first | apply Kd.N_alloc | apply Kd.N_drewN | apply Kd.N_drew)); exact HO_9.out)); (case aS => exact (below_size (by repeat (first | (with_reducible first | exact HB.out | apply below_alloc | apply pw_below_drewN | apply below_drew1 | refine below_set ?_ GE129.out | refine below_set ?_ GE130.out | refine below_set ?_ GE133.out) | exact HB.out)))); (case aL => have := LMc12.out; omega); intro v135 w54 ho hb hg hat; rw [← Ny134.out] at ho; have n0_ := Aside0.mk (Kd.V_afterv (ok := (fun k_ => (P1_ k_ ∨ w.heap.size ≤ k_) ∧ some k_ ≠ (u131000 : Value).ownBlock ∧ k_ ≠ gb129 ∧ k_ ≠ gb130 ∧ k_ ≠ gb133)) (by (with_reducible repeat (first | apply Kd.V_alloc | apply Kd.V_drewN | apply Kd.V_drew)); exact Kd.V_mono HO_15.out (fun _ hk => ⟨⟨hk.1, ⟨hk.2.2.1, ⟨hk.2.2.2.1, ⟨hk.2.2.2.2.1, hk.2.2.2.2.2⟩⟩⟩⟩, hk.2.1⟩)) hg hat); have n1_ := Aside0.mk (Kd.V_afterv (ok := (fun k_ => (P1_ k_ ∨ w.heap.size ≤ k_) ∧ some k_ ≠ (u131000 : Value).ownBlock ∧ k_ ≠ gb129 ∧ k_ ≠ gb130 ∧ k_ ≠ gb133)) (by (with_reducible repeat (first | apply Kd.V_alloc | apply Kd.V_drewN | apply Kd.V_drew)); exact Kd.V_mono HO_21.out (fun _ hk => ⟨⟨hk.1, ⟨hk.2.2.1, ⟨hk.2.2.2.1, ⟨hk.2.2.2.2.1, hk.2.2.2.2.2⟩⟩⟩⟩, hk.2.1⟩)) hg hat); have n2_ := Aside0.mk (Kd.N_afterv (ok := (fun k_ => (P1_ k_ ∨ w.heap.size ≤ k_) ∧ k_ ≠ gb129 ∧ k_ ≠ gb130 ∧ k_ ≠ gb133)) (by (with_reducible repeat (first | apply Kd.N_alloc | apply Kd.N_drewN | apply Kd.N_drew)); exact Kd.N_mono HO_131000.out (fun _ hk => ⟨⟨hk.1, ⟨hk.2.2.1, ⟨hk.2.2.2.1, hk.2.2.2.2⟩⟩⟩, hk.2.1⟩)) hg hat); have n3_ := Aside0.mk (blk_grown (g := gb129) (o := .cells #[.int .i64 a0_0, .int .i64 a0_1, .int .i64 a0_2] 29 (0, 0)) (by (with_reducible repeat (first | refine blk_drewN ?_ _ | refine blk_drew ?_ | refine blk_alloc ?_ _)); exact BK129.out) hg (Kd.N_ne HO_9.out BK129.out (by decide))); have n4_ := Aside0.mk (blk_grown (g := gb130) (o := .cells #[u131000] 80 (0, 0)) (by (with_reducible repeat (first | refine blk_drewN ?_ _ | refine blk_drew ?_ | refine blk_alloc ?_ _)); exact BK130.out) hg (Kd.N_ne HO_9.out BK130.out (by decide))); have n5_ := Aside0.mk (Kd.V_afterv (ok := (fun k_ => (P1_ k_ ∨ w.heap.size ≤ k_) ∧ some k_ ≠ (u131000 : Value).ownBlock ∧ k_ ≠ gb129 ∧ k_ ≠ gb130 ∧ k_ ≠ gb133)) (by (with_reducible repeat (first | apply Kd.V_alloc | apply Kd.V_drewN | apply Kd.V_drew)); exact Kd.V_mono HL132_2.out (fun _ hk => ⟨⟨hk.1, ⟨hk.2.2.1, ⟨hk.2.2.2.1, ⟨hk.2.2.2.2.1, hk.2.2.2.2.2⟩⟩⟩⟩, hk.2.1⟩)) hg hat); have n6_ := Aside0.mk (blk_grown (g := gb133) (o := .cells #[.int .i64 ((rd_T107 (rd_L5 l1 x17_1) x23_2).f0), .int .i64 ((rd_T107 (rd_L5 l1 x17_1) x23_2).f1), .slice A132_2 ((rd_T107 (rd_L5 l1 x17_1) x23_2).f2).length c132_2, .bool ((rd_T107 (rd_L5 l1 x17_1) x23_2).f3)] 107 (0, 0)) (by (with_reducible repeat (first | refine blk_drewN ?_ _ | refine blk_drew ?_ | refine blk_alloc ?_ _)); exact BK133.out) hg (Kd.N_away HO_9.out (fun _ hk => hk.2.2.2.2))); have n7_ := Aside0.mk (hb); have n8_ := Aside0.mk (ho); clear HO_15; clear HO_21; clear HO_131000; clear BK129; clear BK130; clear HL132_2; clear BK133; clear HB; clear HO_9; have HO_15 := n0_; have HO_21 := n1_; have HO_131000 := n2_; have BK129 := n3_; have BK130 := n4_; have HL132_2 := n5_; have BK133 := n6_; have HB := n7_; have HO136 := n8_; clear n0_ n1_ n2_ n3_ n4_ n5_ n6_ n7_ n8_; clear ho hb hg hat) | (go_at_call 72; go_in) | (go_at_call 87; go_in) | (go_at_call 111; go_in) | ((try simp only [Exit.inBlock, Exit.then]); refine bodyPost_end (results_none rfl _ _ _) rfl ?_; simp only []; go_at_K) | ((try simp only [Exit.inBlock, Exit.then]); refine bodyPost_ret (results_none rfl _ _ _) rfl ?_; simp only []; go_at_K))
                              have n0_ := Aside0.mk (Kd.V_drew HO_15.out)
                              have n1_ := Aside0.mk (Kd.V_drew HO_21.out)
                              have n2_ := Aside0.mk (Kd.N_drew HO_131000.out)
                              have n3_ := Aside0.mk (Kd.V_drew HL132_2.out)
                              have n4_ := Aside0.mk (Kd.N_drew HO136.out)
                              have n5_ := Aside0.mk (blk_drew BK129.out)
                              have n6_ := Aside0.mk (blk_drew BK130.out)
                              have n7_ := Aside0.mk (blk_drew BK133.out)
                              have n8_ := Aside0.mk (below_drew1 HB.out)
                              clear HO_15
                              clear HO_21
                              clear HO_131000
                              clear HL132_2
                              clear HO136
                              clear BK129
                              clear BK130
                              clear BK133
                              clear HB
                              have HO_15 := n0_
                              have HO_21 := n1_
                              have HO_131000 := n2_
                              have HL132_2 := n3_
                              have HO136 := n4_
                              have BK129 := n5_
                              have BK130 := n6_
                              have BK133 := n7_
                              have HB := n8_
                              clear n0_ n1_ n2_ n3_ n4_ n5_ n6_ n7_ n8_
                              refine start_ (n := 15) (S := fun w' => w'.cell? ⟨gb133, 0, none⟩ = some (.int .i64 ((rd_T107 (rd_L5 l1 x17_1) x23_2).f0)) ∧ w'.cell? ⟨gb133, 1, none⟩ = some (.int .i64 ((rd_T107 (rd_L5 l1 x17_1) x23_2).f1)) ∧ w'.cell? ⟨gb133, 2, none⟩ = some (.slice A132_2 ((rd_T107 (rd_L5 l1 x17_1) x23_2).f2).length c132_2) ∧ w'.cell? ⟨gb133, 3, none⟩ = some (.bool ((rd_T107 (rd_L5 l1 x17_1) x23_2).f3)) ∧ w'.cell? ⟨gb129, 0, none⟩ = some (.int .i64 a0_0) ∧ w'.cell? ⟨gb129, 1, none⟩ = some (.int .i64 a0_1) ∧ w'.cell? ⟨gb129, 2, none⟩ = some (.int .i64 a0_2)) (ds := []) #[false, false, false, false, false, false, false, false, false, false, false, false, false, false, false] (by kernel_rfl) rfl rfl ⟨(blk_cell BK133.out 0).trans rfl, (blk_cell BK133.out 1).trans rfl, (blk_cell BK133.out 2).trans rfl, (blk_cell BK133.out 3).trans rfl, (blk_cell BK129.out 0).trans rfl, (blk_cell BK129.out 1).trans rfl, (blk_cell BK129.out 2).trans rfl⟩ (fun hHeld => ?_); refine with_tabW bakeref2_Guarded.tab13 bakeref2_Guarded.bits13 (fun HT_ HW_ => ?_)
                              generalize w54.drew = w55 at HO_15 HO_21 HO_131000 HL132_2 HO136 BK129 BK130 BK133 HB hHeld ⊢
                              refine pure_ (i := 0) (N := some 36) (v := ?_) (a' := ?_) #[true, false, false, false, false, false, false, false, false, false, false, false, false, false, false] rfl rfl (any_of HT_.out (by kernel_rfl)) (fun _ _ _ h => h) (Or.inl ⟨by rfl, ?_⟩) ?_ ?_
                              rotate_left
                              · intro w'
                                go_simp
                                with_reducible rfl
                              rotate_left
                              · simp only [Act.put, List.setIfInBounds_toArray, List.set_cons_zero, List.set_cons_succ, i64_w, i32_w]
                                rfl
                              refine pure_ (i := 1) (N := some 37) (v := ?_) (a' := ?_) #[true, true, false, false, false, false, false, false, false, false, false, false, false, false, false] rfl rfl (any_of HT_.out (by kernel_rfl)) (fun _ _ _ h => h) (Or.inl ⟨by rfl, ?_⟩) ?_ ?_
                              rotate_left
                              · intro w'
                                go_simp
                                with_reducible rfl
                              rotate_left
                              · simp only [Act.put, List.setIfInBounds_toArray, List.set_cons_zero, List.set_cons_succ, i64_w, i32_w]
                                rfl
                              refine pure_ (i := 2) (N := some 38) (v := undef) (a' := ?_) #[true, true, true, false, false, false, false, false, false, false, false, false, false, false, false] rfl rfl (any_of HT_.out (by kernel_rfl)) (fun _ _ _ h => h) (Or.inr ⟨by rfl, rfl⟩) ?_ ?_
                              rotate_left
                              · simp only [Act.put, List.setIfInBounds_toArray, List.set_cons_zero, List.set_cons_succ, i64_w, i32_w]
                                rfl
                              refine pure_ (i := 3) (N := some 39) (v := undef) (a' := ?_) #[true, true, true, true, false, false, false, false, false, false, false, false, false, false, false] rfl rfl (any_of HT_.out (by kernel_rfl)) (fun _ _ _ h => h) (Or.inr ⟨by rfl, rfl⟩) ?_ ?_
                              rotate_left
                              · simp only [Act.put, List.setIfInBounds_toArray, List.set_cons_zero, List.set_cons_succ, i64_w, i32_w]
                                rfl
                              refine pure_ (i := 4) (N := some 40) (v := ?_) (a' := ?_) #[true, true, true, true, true, false, false, false, false, false, false, false, false, false, false] rfl rfl (any_of HT_.out (by kernel_rfl)) (fun _ _ _ h => h) (Or.inl ⟨by rfl, ?_⟩) ?_ ?_
                              rotate_left
                              · intro w'
                                go_simp
                                with_reducible rfl
                              rotate_left
                              · simp only [Act.put, List.setIfInBounds_toArray, List.set_cons_zero, List.set_cons_succ, i64_w, i32_w]
                                rfl
                              refine pure_ (i := 5) (N := some 41) (v := ?_) (a' := ?_) #[true, true, true, true, true, true, false, false, false, false, false, false, false, false, false] rfl rfl (any_of HT_.out (by kernel_rfl)) (fun _ _ _ h => h) (Or.inl ⟨by rfl, ?_⟩) ?_ ?_
                              rotate_left
                              · intro w'
                                go_simp
                                with_reducible rfl
                              rotate_left
                              · simp only [Act.put, List.setIfInBounds_toArray, List.set_cons_zero, List.set_cons_succ, i64_w, i32_w]
                                rfl
                              refine pure_ (i := 6) (N := some 42) (v := ?_) (a' := ?_) #[true, true, true, true, true, true, true, false, false, false, false, false, false, false, false] rfl rfl (any_of HT_.out (by kernel_rfl)) (fun _ _ _ h => h) (Or.inl ⟨by rfl, ?_⟩) ?_ ?_
                              rotate_left
                              · intro w'
                                go_simp
                                with_reducible rfl
                              rotate_left
                              · simp only [Act.put, List.setIfInBounds_toArray, List.set_cons_zero, List.set_cons_succ, i64_w, i32_w]
                                rfl
                              refine pure_ (i := 7) (N := some 43) (v := ?_) (a' := ?_) #[true, true, true, true, true, true, true, true, false, false, false, false, false, false, false] rfl rfl (any_of HT_.out (by kernel_rfl)) (fun _ _ _ h => h) (Or.inl ⟨by rfl, ?_⟩) ?_ ?_
                              rotate_left
                              · intro w'
                                go_simp
                                with_reducible rfl
                              rotate_left
                              · simp only [Act.put, List.setIfInBounds_toArray, List.set_cons_zero, List.set_cons_succ, i64_w, i32_w]
                                rfl
                              refine pure_ (i := 9) (N := some 45) (v := ?_) (a' := ?_) #[true, true, true, true, true, true, true, true, false, true, false, false, false, false, false] rfl rfl (any_of HT_.out (by kernel_rfl)) (fun _ _ _ h => h) (Or.inl ⟨by rfl, ?_⟩) ?_ ?_
                              rotate_left
                              · intro w'
                                go_simp
                                with_reducible rfl
                              rotate_left
                              · simp only [Act.put, List.setIfInBounds_toArray, List.set_cons_zero, List.set_cons_succ, i64_w, i32_w]
                                rfl
                              refine pure_ (i := 13) (N := some 10) (v := ?_) (a' := ?_) #[true, true, true, true, true, true, true, true, false, true, false, false, false, true, false] rfl rfl (any_of HT_.out (by kernel_rfl)) (fun _ _ _ h => h) (Or.inl ⟨by rfl, ?_⟩) ?_ ?_
                              rotate_left
                              · intro w'
                                go_simp
                                with_reducible rfl
                              rotate_left
                              · simp only [Act.put, List.setIfInBounds_toArray, List.set_cons_zero, List.set_cons_succ, i64_w, i32_w]
                                rfl
                              refine take_ (i := 8) (N := some 44) (v := ?_) (a' := ?_) #[true, true, true, true, true, true, true, true, true, true, false, false, false, true, false] rfl rfl (take_ofW HT_.out HW_.out (by kernel_rfl)) (fun _ _ _ h => h) (Or.inl ⟨by rfl, ?_⟩) hHeld ?_ ?_
                              rotate_left
                              · rintro w' ⟨s0, s1, s2, s3, s4, s5, s6⟩
                                go_simp
                                with_reducible rfl
                              rotate_left
                              · simp only [Act.put, List.setIfInBounds_toArray, List.set_cons_zero, List.set_cons_succ, i64_w, i32_w]
                                rfl
                              refine take_ (i := 10) (N := some 46) (v := ?_) (a' := ?_) #[true, true, true, true, true, true, true, true, true, true, true, false, false, true, false] rfl rfl (take_ofW HT_.out HW_.out (by kernel_rfl)) (fun _ _ _ h => h) (Or.inl ⟨by rfl, ?_⟩) hHeld ?_ ?_
                              rotate_left
                              · rintro w' ⟨s0, s1, s2, s3, s4, s5, s6⟩
                                go_simp
                                with_reducible rfl
                              rotate_left
                              · simp only [Act.put, List.setIfInBounds_toArray, List.set_cons_zero, List.set_cons_succ, i64_w, i32_w]
                                rfl
                              refine pure_ (i := 11) (N := some 47) (v := ?_) (a' := ?_) #[true, true, true, true, true, true, true, true, true, true, true, true, false, true, false] rfl rfl (any_of HT_.out (by kernel_rfl)) (fun _ _ _ h => h) (Or.inl ⟨by rfl, ?_⟩) ?_ ?_
                              rotate_left
                              · intro w'
                                go_simp
                                with_reducible rfl
                              rotate_left
                              · simp only [Act.put, List.setIfInBounds_toArray, List.set_cons_zero, List.set_cons_succ, i64_w, i32_w]
                                rfl
                              refine pure_ (i := 12) (N := some 48) (v := ?_) (a' := ?_) #[true, true, true, true, true, true, true, true, true, true, true, true, true, true, false] rfl rfl (any_of HT_.out (by kernel_rfl)) (fun _ _ _ h => h) (Or.inl ⟨by rfl, ?_⟩) ?_ ?_
                              rotate_left
                              · intro w'
                                go_simp
                                with_reducible rfl
                              rotate_left
                              · simp only [Act.put, List.setIfInBounds_toArray, List.set_cons_zero, List.set_cons_succ, i64_w, i32_w]
                                rfl
                              refine pure_ (i := 14) (N := some 11) (v := ?_) (a' := ?_) #[true, true, true, true, true, true, true, true, true, true, true, true, true, true, true] rfl rfl (any_of HT_.out (by kernel_rfl)) (fun _ _ _ h => h) (Or.inl ⟨by rfl, ?_⟩) ?_ ?_
                              rotate_left
                              · intro w'
                                go_simp
                                with_reducible rfl
                              rotate_left
                              · simp only [Act.put, List.setIfInBounds_toArray, List.set_cons_zero, List.set_cons_succ, i64_w, i32_w]
                                rfl
                              refine done_ (done_of HT_.out (by kernel_rfl)) ?_
                              try go_wp2
                              go_roundg k2
                              case measure => have := HK1.out; have := HK2.out; omega
                              case rel => exact ⟨(y134), (false), ((((rd_T107 (rd_L5 l1 x17_1) x23_2).f0) != a0_1)), (wrap64 (x23_2 + 1)), (by first | rfl | (simp; done) | (simp [*]; done)), (by first | rfl | (simp; done) | (simp [*]; done)), (by first | rfl | (simp; done) | (simp [*]; done)), H', ⟨by have := HK1.out; have := HK2.out; omega⟩, ⟨by (with_reducible repeat (first | apply Kd.N_alloc | apply Kd.N_drewN | apply Kd.N_drew)); exact Kd.N_mono HO136.out (fun _ hk => ⟨hk.1, ⟨hk.2.1, ⟨hk.2.2.1, hk.2.2.2.1⟩⟩⟩)⟩, ⟨by (with_reducible repeat (first | apply Kd.V_alloc | apply Kd.V_drewN | apply Kd.V_drew)); exact Kd.V_mono HO_15.out (fun _ hk => ⟨hk.1.1, ⟨hk.2, ⟨hk.1.2.1, ⟨hk.1.2.2.1, hk.1.2.2.2.1⟩⟩⟩⟩)⟩, ⟨by (with_reducible repeat (first | apply Kd.V_alloc | apply Kd.V_drewN | apply Kd.V_drew)); exact Kd.V_mono HO_21.out (fun _ hk => ⟨hk.1.1, ⟨hk.2, ⟨hk.1.2.1, ⟨hk.1.2.2.1, hk.1.2.2.2.1⟩⟩⟩⟩)⟩, ⟨by (with_reducible repeat (first | apply Kd.N_alloc | apply Kd.N_drewN | apply Kd.N_drew)); exact Kd.N_mono HO_131000.out (fun _ hk => ⟨hk.1.1, ⟨hk.2, ⟨hk.1.2.1, hk.1.2.2.1⟩⟩⟩)⟩, ⟨by (with_reducible repeat (first | refine blk_drewN ?_ _ | refine blk_drew ?_ | refine blk_alloc ?_ _)); exact BK129.out⟩, ⟨by (with_reducible repeat (first | refine blk_drewN ?_ _ | refine blk_drew ?_ | refine blk_alloc ?_ _)); exact BK130.out⟩, ⟨by repeat (first | (with_reducible first | exact HB.out | apply below_alloc | apply pw_below_drewN | apply below_drew1 | refine below_set ?_ GE129.out | refine below_set ?_ GE130.out | refine below_set ?_ GE133.out) | exact HB.out)⟩⟩
                        · rw [if_neg c12] at H
                          exact absurd H (by simp)
                      · rw [if_neg c11] at H
                        have c11b0 : (((rd_T107 (rd_L5 l1 x17_1) x23_2).f1) == a0_2) = false := beq_eq_false_iff_ne.mpr c11
                        have c11b1 : (((rd_T107 (rd_L5 l1 x17_1) x23_2).f1) != a0_2) = true := bne_iff_ne.mpr c11
                        have H' := Aside0.mk H
                        clear H
                        have p132 : 0 ≤ (x23_2 : Int) := of_decide_eq_true (by first | (with_reducible assumption) | assumption)
                        have q132 : x23_2 < ((rd_L5 l1 x17_1).length : Int) := of_decide_eq_true (by first | (with_reducible assumption) | assumption)
                        obtain ⟨ad132, A132_2, c132_2, e132, hx132_0, hx132_1, hx132_2, hx132_3, hl132_2, hi132_2⟩ := at_T107 (Kd.V_reads' HO_21.out).2.2 x23_2 p132 q132
                        cases e132
                        obtain ⟨ce132, hce132, hMe132, hcc132⟩ := Kd.V_get HO_21.out z107 x23_2 p132 (by first | exact q132 | exact of_decide_eq_true (by first | (with_reducible assumption) | assumption) | (have e_ := (Kd.V_reads' HO_21.out).1; omega))
                        obtain ⟨ua132_2, uc132_2, rfl, ul132_2, ge132_2⟩ := k107_openF hMe132
                        have hv132_2 := hcc132 2 _ rfl
                        rw [add_field _ _ 2 (by omega)] at hv132_2
                        replace hv132_2 := Option.some.inj (hv132_2.symm.trans hx132_2)
                        injection hv132_2 with hva_ hvn_ hvc_
                        rw [hva_] at ge132_2
                        rw [hvc_] at ul132_2
                        have HL132_2 := Aside0.mk (show Kd.V (Kd.int .u8) 5 _ w.heap.size _ _ ((rd_T107 (rd_L5 l1 x17_1) x23_2).f2) from Kd.V_mk ul132_2 ge132_2)
                        clear hva_ hvn_ hvc_ ge132_2 ul132_2
                        clear hcc132 hce132
                        have HR132_2 := Aside0.mk hi132_2
                        have HC132_2 := Aside0.mk hl132_2
                        clear hi132_2 hl132_2
                        replace p132 := eq_true p132
                        replace q132 := eq_true q132
                        go_wp2_with (first | ((with_reducible refine gate_dst (N := 13) rfl ?_); (try (refine gate_guard (by rfl) ?_; dsimp only)); refine box_event ?hg (N := 13) ?hd (cs := #[.int .i64 0, .int .i64 0, .slice none 0 0, .bool false]) (t := 107) ?hr ?_; (case hd => rfl); (case hg => rfl); (case hr => first | (go_simp; done) | (go_simp; rfl)); intro gb133 hg w56 hbox hb; have n0_ := Aside0.mk (Kd.N_below (Kd.N_elderB (by (with_reducible repeat (first | apply Kd.N_alloc | apply Kd.N_drewN | apply Kd.N_drew)); exact HO_9.out) gb133 (Nat.le_of_eq hg.symm)) hb); have n1_ := Aside0.mk (Kd.V_below (Kd.V_elderB (by (with_reducible repeat (first | apply Kd.V_alloc | apply Kd.V_drewN | apply Kd.V_drew)); exact HO_15.out) gb133 (Nat.le_of_eq hg.symm)) hb); have n2_ := Aside0.mk (Kd.V_below (Kd.V_elderB (by (with_reducible repeat (first | apply Kd.V_alloc | apply Kd.V_drewN | apply Kd.V_drew)); exact HO_21.out) gb133 (Nat.le_of_eq hg.symm)) hb); have n3_ := Aside0.mk (Kd.N_below (Kd.N_elderB (by (with_reducible repeat (first | apply Kd.N_alloc | apply Kd.N_drewN | apply Kd.N_drew)); exact HO_131000.out) gb133 (Nat.le_of_eq hg.symm)) hb); have n4_ := Aside0.mk (Kd.V_below (Kd.V_elderB (by (with_reducible repeat (first | apply Kd.V_alloc | apply Kd.V_drewN | apply Kd.V_drew)); exact HL132_2.out) gb133 (Nat.le_of_eq hg.symm)) hb); have n5_ := Aside0.mk (blk_below (g := gb129) (o := .cells #[.int .i64 a0_0, .int .i64 a0_1, .int .i64 a0_2] 29 (0, 0)) (by (with_reducible repeat (first | refine blk_drewN ?_ _ | refine blk_drew ?_ | refine blk_alloc ?_ _)); exact BK129.out) hb); have n6_ := Aside0.mk (blk_below (g := gb130) (o := .cells #[u131000] 80 (0, 0)) (by (with_reducible repeat (first | refine blk_drewN ?_ _ | refine blk_drew ?_ | refine blk_alloc ?_ _)); exact BK130.out) hb); have n7_ := Aside0.mk (Kd.C_below (by repeat (first | (with_reducible exact HR132_2.out) | (with_reducible refine Kd.C_alloc ?_ _) | (with_reducible refine Kd.C_drewN ?_ _) | (with_reducible refine Kd.C_drew ?_) | exact HR132_2.out)) hb); have n8_ := Aside0.mk (below_step (by repeat (first | (with_reducible first | exact HB.out | apply below_alloc | apply pw_below_drewN | apply below_drew1 | refine below_set ?_ GE129.out | refine below_set ?_ GE130.out) | exact HB.out)) hb); have n9_ := Aside0.mk (hbox); have n10_ := Aside0.mk ((by rw [hg]; exact (below_size (by repeat (first | (with_reducible first | exact HB.out | apply below_alloc | apply pw_below_drewN | apply below_drew1 | refine below_set ?_ GE129.out | refine below_set ?_ GE130.out) | exact HB.out))) : w.heap.size ≤ gb133)); have n11_ := Aside0.mk ((by rw [hg]; exact (below_size (by repeat (first | (with_reducible first | exact HB.out | apply below_alloc | apply pw_below_drewN | apply below_drew1 | refine below_set ?_ GE129.out | refine below_set ?_ GE130.out) | exact HB.out))) : w.heap.size ≤ gb133)); have n12_ := Aside0.mk ((by rw [hg]; exact Nat.ne_of_lt (blk_lt (g := gb129) (o := .cells #[.int .i64 a0_0, .int .i64 a0_1, .int .i64 a0_2] 29 (0, 0)) (by (with_reducible repeat (first | refine blk_drewN ?_ _ | refine blk_drew ?_ | refine blk_alloc ?_ _)); exact BK129.out)) : gb129 ≠ gb133)); have n13_ := Aside0.mk ((by rw [hg]; exact Nat.ne_of_gt (blk_lt (g := gb129) (o := .cells #[.int .i64 a0_0, .int .i64 a0_1, .int .i64 a0_2] 29 (0, 0)) (by (with_reducible repeat (first | refine blk_drewN ?_ _ | refine blk_drew ?_ | refine blk_alloc ?_ _)); exact BK129.out)) : gb133 ≠ gb129)); have n14_ := Aside0.mk ((by rw [hg]; exact Nat.ne_of_lt (blk_lt (g := gb130) (o := .cells #[u131000] 80 (0, 0)) (by (with_reducible repeat (first | refine blk_drewN ?_ _ | refine blk_drew ?_ | refine blk_alloc ?_ _)); exact BK130.out)) : gb130 ≠ gb133)); have n15_ := Aside0.mk ((by rw [hg]; exact Nat.ne_of_gt (blk_lt (g := gb130) (o := .cells #[u131000] 80 (0, 0)) (by (with_reducible repeat (first | refine blk_drewN ?_ _ | refine blk_drew ?_ | refine blk_alloc ?_ _)); exact BK130.out)) : gb133 ≠ gb130)); clear HO_9; clear HO_15; clear HO_21; clear HO_131000; clear HL132_2; clear BK129; clear BK130; clear HR132_2; clear HB; have HO_9 := n0_; have HO_15 := n1_; have HO_21 := n2_; have HO_131000 := n3_; have HL132_2 := n4_; have BK129 := n5_; have BK130 := n6_; have HR132_2 := n7_; have HB := n8_; have BK133 := n9_; have GW133 := n10_; have GE133 := n11_; have NB129_133 := n12_; have NB133_129 := n13_; have NB130_133 := n14_; have NB133_130 := n15_; clear n0_ n1_ n2_ n3_ n4_ n5_ n6_ n7_ n8_ n9_ n10_ n11_ n12_ n13_ n14_ n15_; clear hb hbox hg; have hnb57 := NB133_129.out; have hnc57 := NB129_133.out; have hnb58 := NB133_130.out; have hnc58 := NB130_133.out; have hcz59_0 : w56.cell? ⟨gb133, 0, none⟩ = some (.int .i64 0) := (blk_cell BK133.out 0).trans rfl; have hcz59_1 : w56.cell? ⟨gb133, 1, none⟩ = some (.int .i64 0) := (blk_cell BK133.out 1).trans rfl; have hcz59_2 : w56.cell? ⟨gb133, 2, none⟩ = some (.slice none 0 0) := (blk_cell BK133.out 2).trans rfl; have hcz59_3 : w56.cell? ⟨gb133, 3, none⟩ = some (.bool false) := (blk_cell BK133.out 3).trans rfl; have hfz59_0 := blk_frozen BK133.out 0; have hfz59_1 := blk_frozen BK133.out 1; have hfz59_2 := blk_frozen BK133.out 2; have hfz59_3 := blk_frozen BK133.out 3; have hnb60 := NB129_130.out; have hnc60 := NB130_129.out; have hcz61_0 : w56.cell? ⟨gb129, 0, none⟩ = some (.int .i64 a0_0) := (blk_cell BK129.out 0).trans rfl; have hcz61_1 : w56.cell? ⟨gb129, 1, none⟩ = some (.int .i64 a0_1) := (blk_cell BK129.out 1).trans rfl; have hcz61_2 : w56.cell? ⟨gb129, 2, none⟩ = some (.int .i64 a0_2) := (blk_cell BK129.out 2).trans rfl; have hfz61_0 := blk_frozen BK129.out 0; have hfz61_1 := blk_frozen BK129.out 1; have hfz61_2 := blk_frozen BK129.out 2) | (go_at_call 72; go_in) | (go_at_call 87; go_in) | (go_at_call 111; go_in) | ((try simp only [Exit.inBlock, Exit.then]); refine bodyPost_end (results_none rfl _ _ _) rfl ?_; simp only []; go_at_K) | ((try simp only [Exit.inBlock, Exit.then]); refine bodyPost_ret (results_none rfl _ _ _) rfl ?_; simp only []; go_at_K))
                        go_roundg k2
                        case measure => have := HK1.out; have := HK2.out; omega
                        case rel => exact ⟨(x9_2), (x10_2), (x11_2), (wrap64 (x23_2 + 1)), (by first | rfl | (simp; done) | (simp [*]; done)), (by first | rfl | (simp; done) | (simp [*]; done)), (by first | rfl | (simp; done) | (simp [*]; done)), H', ⟨by have := HK1.out; have := HK2.out; omega⟩, ⟨by (with_reducible repeat (first | apply Kd.N_alloc | apply Kd.N_drewN | apply Kd.N_drew)); exact Kd.N_mono (Kd.N_far (p := ⟨gb133, 3, none⟩) (Kd.N_far (p := ⟨gb133, 2, none⟩) (Kd.N_far (p := ⟨gb133, 1, none⟩) (Kd.N_far (p := ⟨gb133, 0, none⟩) (Kd.N_mono HO_9.out (fun k_ hk => (⟨hk, hk.2⟩ : _ ∧ k_ ≠ gb133))) (fun _ hk => hk.2) (.int .i64 ((rd_T107 (rd_L5 l1 x17_1) x23_2).f0))) (fun _ hk => hk.2) (.int .i64 ((rd_T107 (rd_L5 l1 x17_1) x23_2).f1))) (fun _ hk => hk.2) (.slice A132_2 ((rd_T107 (rd_L5 l1 x17_1) x23_2).f2).length c132_2)) (fun _ hk => hk.2) (.bool ((rd_T107 (rd_L5 l1 x17_1) x23_2).f3))) (fun _ hk => ⟨hk.1.1.1, ⟨hk.1.1.2.1, ⟨hk.1.1.2.2.1, hk.1.1.2.2.2⟩⟩⟩)⟩, ⟨by (with_reducible repeat (first | apply Kd.V_alloc | apply Kd.V_drewN | apply Kd.V_drew)); exact Kd.V_mono (Kd.V_far (p := ⟨gb133, 3, none⟩) (Kd.V_far (p := ⟨gb133, 2, none⟩) (Kd.V_far (p := ⟨gb133, 1, none⟩) (Kd.V_far (p := ⟨gb133, 0, none⟩) (Kd.V_mono HO_15.out (fun k_ hk => (⟨hk, hk.2⟩ : _ ∧ k_ ≠ gb133))) (fun _ hk => hk.2) (.int .i64 ((rd_T107 (rd_L5 l1 x17_1) x23_2).f0))) (fun _ hk => hk.2) (.int .i64 ((rd_T107 (rd_L5 l1 x17_1) x23_2).f1))) (fun _ hk => hk.2) (.slice A132_2 ((rd_T107 (rd_L5 l1 x17_1) x23_2).f2).length c132_2)) (fun _ hk => hk.2) (.bool ((rd_T107 (rd_L5 l1 x17_1) x23_2).f3))) (fun _ hk => ⟨hk.1.1.1, ⟨hk.1.1.2.1, ⟨hk.1.1.2.2.1, ⟨hk.1.1.2.2.2.1, hk.1.1.2.2.2.2⟩⟩⟩⟩)⟩, ⟨by (with_reducible repeat (first | apply Kd.V_alloc | apply Kd.V_drewN | apply Kd.V_drew)); exact Kd.V_mono (Kd.V_far (p := ⟨gb133, 3, none⟩) (Kd.V_far (p := ⟨gb133, 2, none⟩) (Kd.V_far (p := ⟨gb133, 1, none⟩) (Kd.V_far (p := ⟨gb133, 0, none⟩) (Kd.V_mono HO_21.out (fun k_ hk => (⟨hk, hk.2⟩ : _ ∧ k_ ≠ gb133))) (fun _ hk => hk.2) (.int .i64 ((rd_T107 (rd_L5 l1 x17_1) x23_2).f0))) (fun _ hk => hk.2) (.int .i64 ((rd_T107 (rd_L5 l1 x17_1) x23_2).f1))) (fun _ hk => hk.2) (.slice A132_2 ((rd_T107 (rd_L5 l1 x17_1) x23_2).f2).length c132_2)) (fun _ hk => hk.2) (.bool ((rd_T107 (rd_L5 l1 x17_1) x23_2).f3))) (fun _ hk => ⟨hk.1.1.1, ⟨hk.1.1.2.1, ⟨hk.1.1.2.2.1, ⟨hk.1.1.2.2.2.1, hk.1.1.2.2.2.2⟩⟩⟩⟩)⟩, ⟨by (with_reducible repeat (first | apply Kd.N_alloc | apply Kd.N_drewN | apply Kd.N_drew)); exact Kd.N_mono (Kd.N_far (p := ⟨gb133, 3, none⟩) (Kd.N_far (p := ⟨gb133, 2, none⟩) (Kd.N_far (p := ⟨gb133, 1, none⟩) (Kd.N_far (p := ⟨gb133, 0, none⟩) (Kd.N_mono HO_131000.out (fun k_ hk => (⟨hk, hk.2⟩ : _ ∧ k_ ≠ gb133))) (fun _ hk => hk.2) (.int .i64 ((rd_T107 (rd_L5 l1 x17_1) x23_2).f0))) (fun _ hk => hk.2) (.int .i64 ((rd_T107 (rd_L5 l1 x17_1) x23_2).f1))) (fun _ hk => hk.2) (.slice A132_2 ((rd_T107 (rd_L5 l1 x17_1) x23_2).f2).length c132_2)) (fun _ hk => hk.2) (.bool ((rd_T107 (rd_L5 l1 x17_1) x23_2).f3))) (fun _ hk => ⟨hk.1.1.1, ⟨hk.1.1.2.1, ⟨hk.1.1.2.2.1, hk.1.1.2.2.2⟩⟩⟩)⟩, ⟨by (with_reducible repeat (first | refine blk_drewN ?_ _ | refine blk_drew ?_ | refine blk_alloc ?_ _)); refine blk_far ?_ NB129_133.out _; (with_reducible repeat (first | refine blk_drewN ?_ _ | refine blk_drew ?_ | refine blk_alloc ?_ _)); refine blk_far ?_ NB129_133.out _; (with_reducible repeat (first | refine blk_drewN ?_ _ | refine blk_drew ?_ | refine blk_alloc ?_ _)); refine blk_far ?_ NB129_133.out _; (with_reducible repeat (first | refine blk_drewN ?_ _ | refine blk_drew ?_ | refine blk_alloc ?_ _)); refine blk_far ?_ NB129_133.out _; (with_reducible repeat (first | refine blk_drewN ?_ _ | refine blk_drew ?_ | refine blk_alloc ?_ _)); exact BK129.out⟩, ⟨by (with_reducible repeat (first | refine blk_drewN ?_ _ | refine blk_drew ?_ | refine blk_alloc ?_ _)); refine blk_far ?_ NB130_133.out _; (with_reducible repeat (first | refine blk_drewN ?_ _ | refine blk_drew ?_ | refine blk_alloc ?_ _)); refine blk_far ?_ NB130_133.out _; (with_reducible repeat (first | refine blk_drewN ?_ _ | refine blk_drew ?_ | refine blk_alloc ?_ _)); refine blk_far ?_ NB130_133.out _; (with_reducible repeat (first | refine blk_drewN ?_ _ | refine blk_drew ?_ | refine blk_alloc ?_ _)); refine blk_far ?_ NB130_133.out _; (with_reducible repeat (first | refine blk_drewN ?_ _ | refine blk_drew ?_ | refine blk_alloc ?_ _)); exact BK130.out⟩, ⟨by repeat (first | (with_reducible first | exact HB.out | apply below_alloc | apply pw_below_drewN | apply below_drew1 | refine below_set ?_ GE129.out | refine below_set ?_ GE130.out | refine below_set ?_ GE133.out) | exact HB.out)⟩⟩
                    · rw [if_neg c10] at H
                      exact absurd H (by simp)
                  · rw [if_neg c9] at H
                    exact absurd H (by simp)
                · rw [if_neg c8] at H
                  have c8b0 : decide (x23_2 < ((rd_L5 l1 x17_1).length : Int)) = false := decide_eq_false c8
                  clear c8
                  by_cases c62 : x6_1 = true
                  · subst c62
                    have H1 : (if (x9_2.length : Int) > 0 then ((some (([((x9_2.length : Int) == 0), x10_2, decide ((x9_2.length : Int) > 1), true, x11_2] : List Bool) : List Bool)).bind fun y137 => (if 0 ≤ a0_0 then (if a0_0 < (y137.length : Int) then (if 0 < (x9_2.length : Int) then (if x131000_1.length < 5864062014805 then (bakeref2_Guarded.l0 k2 (rdOf false y137 a0_0) l1 (l1.length : Int) (wrap64 (x17_1 + 1)) a0_0 a0_1 a0_2 (x131000_1 ++ [(rd_T107 x9_2 0).f2])) else (none)) else (none)) else (none)) else (none))) else ((some (([((x9_2.length : Int) == 0), false, decide ((x9_2.length : Int) > 1), true, x11_2] : List Bool) : List Bool)).bind fun y145 => (if 0 ≤ a0_0 then (if a0_0 < (y145.length : Int) then (bakeref2_Guarded.l0 k2 (rdOf false y145 a0_0) l1 (l1.length : Int) (wrap64 (x17_1 + 1)) a0_0 a0_1 a0_2 x131000_1) else (none)) else (none)))) = some r := by rw [if_pos rfl] at H; exact H
                    clear H
                    have H := H1
                    clear H1
                    by_cases c63 : (x9_2.length : Int) > 0
                    · rw [if_pos c63] at H
                      have c63b0 : decide (0 < (x9_2.length : Int)) = true := decide_eq_true c63
                      have c63b1 : decide (0 < x9_2.length) = true := decide_eq_true (by omega)
                      clear c63
                      obtain ⟨y137, hy137⟩ : ∃ y_ : List Bool, y_ = (([((x9_2.length : Int) == 0), x10_2, decide ((x9_2.length : Int) > 1), true, x11_2] : List Bool)) := ⟨_, rfl⟩
                      replace H : (if 0 ≤ a0_0 then (if a0_0 < (y137.length : Int) then (if 0 < (x9_2.length : Int) then (if x131000_1.length < 5864062014805 then (bakeref2_Guarded.l0 k2 (rdOf false y137 a0_0) l1 (l1.length : Int) (wrap64 (x17_1 + 1)) a0_0 a0_1 a0_2 (x131000_1 ++ [(rd_T107 x9_2 0).f2])) else (none)) else (none)) else (none)) else (none)) = some r := by first | (rw [hy137]; with_reducible exact H) | (have H2_ := (Option.bind_some _ _).symm.trans H; rw [hy137]; with_reducible exact H2_) | (have H2_ := (Option.bind_some _ _).symm.trans H; with_reducible exact H2_) | with_reducible exact H | (rw [hy137]; exact H) | exact H
                      have Ny137 := Aside0.mk hy137
                      clear hy137
                      by_cases c64 : 0 ≤ a0_0
                      · rw [if_pos c64] at H
                        have c64b0 : decide (0 ≤ a0_0) = true := decide_eq_true c64
                        clear c64
                        by_cases c65 : a0_0 < (y137.length : Int)
                        · rw [if_pos c65] at H
                          have c65b0 : decide (a0_0 < (y137.length : Int)) = true := decide_eq_true c65
                          clear c65
                          by_cases c66 : 0 < (x9_2.length : Int)
                          · rw [if_pos c66] at H
                            have c66b0 : decide (0 < (x9_2.length : Int)) = true := decide_eq_true c66
                            have c66b1 : decide (0 < x9_2.length) = true := decide_eq_true (by omega)
                            clear c66
                            by_cases c67 : x131000_1.length < 5864062014805
                            · rw [if_pos c67] at H
                              have LMc67 := Aside0.mk c67
                              clear c67
                              obtain ⟨y142, hy142⟩ : ∃ y_ : List (List Int), y_ = (x131000_1 ++ [(rd_T107 x9_2 0).f2]) := ⟨_, rfl⟩
                              replace H : (bakeref2_Guarded.l0 k2 (rdOf false y137 a0_0) l1 (l1.length : Int) (wrap64 (x17_1 + 1)) a0_0 a0_1 a0_2 y142) = some r := by first | (rw [hy142]; with_reducible exact H) | (have H2_ := (Option.bind_some _ _).symm.trans H; rw [hy142]; with_reducible exact H2_) | (have H2_ := (Option.bind_some _ _).symm.trans H; with_reducible exact H2_) | with_reducible exact H | (rw [hy142]; exact H) | exact H
                              have Ny142 := Aside0.mk hy142
                              clear hy142
                              have H' := Aside0.mk H
                              clear H
                              obtain ⟨Ao68, co68, eo68⟩ := Kd.N_slice HO_9.out
                              subst eo68
                              try go_wp2_with (first | ((with_reducible refine gate_dst (N := 64) rfl ?_); (try (refine gate_guard (by rfl) ?_; dsimp only)); refine Kd.R_lit Kd.bool _ 4 ?hg (N := 64) ?hd (xs := ([((x9_2.length : Int) == 0), x10_2, decide ((x9_2.length : Int) > 1), true, x11_2] : List Bool)) (inner := [.bool ((x9_2.length : Int) == 0), .bool x10_2, .bool (decide ((x9_2.length : Int) > 1)), .bool true, .bool x11_2]) (ok := fun _ => True) (okp := fun _ => True) ?hr ?hp (fun _ hk => hk) trivial (Below.refl _ _) (Nat.le_refl _) (by simp) ?_; (case hd => rfl); (case hg => rfl); (case hr => first | (go_simp; done) | (go_simp; rfl)); (case hp => exact (Reps.one (show Kd.M Kd.bool _ _ _ ((x9_2.length : Int) == 0) [.bool ((x9_2.length : Int) == 0)] from rfl) (Reps.one (show Kd.M Kd.bool _ _ _ x10_2 [.bool x10_2] from rfl) (Reps.one (show Kd.M Kd.bool _ _ _ (decide ((x9_2.length : Int) > 1)) [.bool (decide ((x9_2.length : Int) > 1))] from rfl) (Reps.one (show Kd.M Kd.bool _ _ _ true [.bool true] from rfl) (Reps.one (show Kd.M Kd.bool _ _ _ x11_2 [.bool x11_2] from rfl) (Reps.none _ _))))))); intro v138 w69 ho70 hb hg_ hnew_; clear hg_ hnew_; (first | rw [← Ny137.out] at ho70 | (simp only [Int.reduceToNat] at ho70; rw [← Ny137.out] at ho70)); have n0_ := Aside0.mk (Kd.N_elder' (by (with_reducible repeat (first | apply Kd.N_alloc | apply Kd.N_drewN | apply Kd.N_drew)); exact HO_9.out) (Kd.R_base ho70) hb); have n1_ := Aside0.mk (Kd.V_elder' (by (with_reducible repeat (first | apply Kd.V_alloc | apply Kd.V_drewN | apply Kd.V_drew)); exact HO_15.out) (Kd.R_base ho70) hb); have n2_ := Aside0.mk (Kd.V_elder' (by (with_reducible repeat (first | apply Kd.V_alloc | apply Kd.V_drewN | apply Kd.V_drew)); exact HO_21.out) (Kd.R_base ho70) hb); have n3_ := Aside0.mk (Kd.N_elder' (by (with_reducible repeat (first | apply Kd.N_alloc | apply Kd.N_drewN | apply Kd.N_drew)); exact HO_131000.out) (Kd.R_base ho70) hb); have n4_ := Aside0.mk (Kd.R_lower (Kd.R_newM (M := fun k_ => (w.heap.size ≤ k_)) ho70 (below_size (by repeat (first | (with_reducible first | exact HB.out | apply below_alloc | apply pw_below_drewN | apply below_drew1 | refine below_set ?_ GE129.out | refine below_set ?_ GE130.out) | exact HB.out))) (fun k_ h_ => h_)) (below_size (by repeat (first | (with_reducible first | exact HB.out | apply below_alloc | apply pw_below_drewN | apply below_drew1 | refine below_set ?_ GE129.out | refine below_set ?_ GE130.out) | exact HB.out)))); have n5_ := Aside0.mk (blk_below (g := gb129) (o := .cells #[.int .i64 a0_0, .int .i64 a0_1, .int .i64 a0_2] 29 (0, 0)) (by (with_reducible repeat (first | refine blk_drewN ?_ _ | refine blk_drew ?_ | refine blk_alloc ?_ _)); exact BK129.out) hb); have n6_ := Aside0.mk (blk_below (g := gb130) (o := .cells #[u131000] 80 (0, 0)) (by (with_reducible repeat (first | refine blk_drewN ?_ _ | refine blk_drew ?_ | refine blk_alloc ?_ _)); exact BK130.out) hb); have n7_ := Aside0.mk (below_step (by repeat (first | (with_reducible first | exact HB.out | apply below_alloc | apply pw_below_drewN | apply below_drew1 | refine below_set ?_ GE129.out | refine below_set ?_ GE130.out) | exact HB.out)) hb); clear HO_9; clear HO_15; clear HO_21; clear HO_131000; clear BK129; clear BK130; clear HB; have HO_9 := n0_; have HO_15 := n1_; have HO_21 := n2_; have HO_131000 := n3_; have HO139 := n4_; have BK129 := n5_; have BK130 := n6_; have HB := n7_; clear n0_ n1_ n2_ n3_ n4_ n5_ n6_ n7_; clear hb ho70; have hnb71 := NB129_130.out; have hnc71 := NB130_129.out; have hcz72_0 : w69.cell? ⟨gb129, 0, none⟩ = some (.int .i64 a0_0) := (blk_cell BK129.out 0).trans rfl; have hcz72_1 : w69.cell? ⟨gb129, 1, none⟩ = some (.int .i64 a0_1) := (blk_cell BK129.out 1).trans rfl; have hcz72_2 : w69.cell? ⟨gb129, 2, none⟩ = some (.int .i64 a0_2) := (blk_cell BK129.out 2).trans rfl; have hfz72_0 := blk_frozen BK129.out 0; have hfz72_1 := blk_frozen BK129.out 1; have hfz72_2 := blk_frozen BK129.out 2; obtain ⟨Ao73, co73, eo73⟩ := Kd.R_slice HO139.out; subst eo73; have p140 : 0 ≤ (a0_0 : Int) := of_decide_eq_true (by first | (with_reducible assumption) | assumption); have q140 : a0_0 < (y137.length : Int) := of_decide_eq_true (by first | (with_reducible assumption) | assumption); obtain ⟨ad140, e140, hx140_0⟩ := Kd.at_bool (Kd.R_reads' HO139.out).2.2 a0_0 p140 q140; cases e140; replace p140 := eq_true p140; replace q140 := eq_true q140) | (go_at_call 72; go_in) | (go_at_call 87; go_in) | (go_at_call 111; go_in) | ((try simp only [Exit.inBlock, Exit.then]); refine bodyPost_end (results_none rfl _ _ _) rfl ?_; simp only []; go_at_K) | ((try simp only [Exit.inBlock, Exit.then]); refine bodyPost_ret (results_none rfl _ _ _) rfl ?_; simp only []; go_at_K))
                              have n0_ := Aside0.mk (Kd.N_drew HO_9.out)
                              have n1_ := Aside0.mk (Kd.V_drew HO_15.out)
                              have n2_ := Aside0.mk (Kd.V_drew HO_21.out)
                              have n3_ := Aside0.mk (Kd.N_drew HO_131000.out)
                              have n4_ := Aside0.mk (Kd.R_drew HO139.out)
                              have n5_ := Aside0.mk (blk_drew BK129.out)
                              have n6_ := Aside0.mk (blk_drew BK130.out)
                              have n7_ := Aside0.mk (below_drew1 HB.out)
                              clear HO_9
                              clear HO_15
                              clear HO_21
                              clear HO_131000
                              clear HO139
                              clear BK129
                              clear BK130
                              clear HB
                              have HO_9 := n0_
                              have HO_15 := n1_
                              have HO_21 := n2_
                              have HO_131000 := n3_
                              have HO139 := n4_
                              have BK129 := n5_
                              have BK130 := n6_
                              have HB := n7_
                              clear n0_ n1_ n2_ n3_ n4_ n5_ n6_ n7_
                              have p141 : 0 ≤ (0 : Int) := (by omega)
                              have q141 : 0 < (x9_2.length : Int) := of_decide_eq_true (by first | (with_reducible assumption) | assumption)
                              obtain ⟨ad141, A141_2, c141_2, e141, hx141_0, hx141_1, hx141_2, hx141_3, hl141_2, hi141_2⟩ := at_T107 (Kd.N_reads' HO_9.out).2.2 0 p141 q141
                              cases e141
                              obtain ⟨ce141, hce141, hMe141, hcc141⟩ := Kd.N_get HO_9.out z107 0 p141 (by first | exact q141 | exact of_decide_eq_true (by first | (with_reducible assumption) | assumption) | (have e_ := (Kd.N_reads' HO_9.out).1; omega))
                              obtain ⟨ua141_2, uc141_2, rfl, ul141_2, ge141_2⟩ := k107_openF hMe141
                              have hv141_2 := hcc141 2 _ rfl
                              rw [add_field _ _ 2 (by omega)] at hv141_2
                              replace hv141_2 := Option.some.inj (hv141_2.symm.trans hx141_2)
                              injection hv141_2 with hva_ hvn_ hvc_
                              rw [hva_] at ge141_2
                              rw [hvc_] at ul141_2
                              have HL141_2 := Aside0.mk (show Kd.V (Kd.int .u8) 5 _ w.heap.size _ _ ((rd_T107 x9_2 0).f2) from Kd.V_mk ul141_2 ge141_2)
                              clear hva_ hvn_ hvc_ ge141_2 ul141_2
                              clear hcc141 hce141
                              have qi141 : (0 < x9_2.length) = True := eq_true (by omega)
                              (try rw [show ((0 : Int)).toNat = 0 from rfl] at hx141_0)
                              (try rw [show 0 * 4 = 0 from rfl] at hx141_0)
                              (try rw [Addr.add_zero'] at hx141_0)
                              (try rw [show ((0 : Int)).toNat = 0 from rfl] at hx141_1)
                              (try rw [show 0 * 4 = 0 from rfl] at hx141_1)
                              (try rw [Addr.add_zero'] at hx141_1)
                              (try rw [show ((0 : Int)).toNat = 0 from rfl] at hx141_2)
                              (try rw [show 0 * 4 = 0 from rfl] at hx141_2)
                              (try rw [Addr.add_zero'] at hx141_2)
                              (try rw [show ((0 : Int)).toNat = 0 from rfl] at hx141_3)
                              (try rw [show 0 * 4 = 0 from rfl] at hx141_3)
                              (try rw [Addr.add_zero'] at hx141_3)
                              have HR141_2 := Aside0.mk hi141_2
                              have HC141_2 := Aside0.mk hl141_2
                              clear hi141_2 hl141_2
                              replace p141 := eq_true p141
                              replace q141 := eq_true q141
                              refine start_ (n := 8) (S := fun w' => w'.cell? ⟨gb130, 0, none⟩ = some (u131000) ∧ w'.cell? ad141 = some (.int .i64 ((rd_T107 x9_2 0).f0)) ∧ w'.cell? ⟨ad141.block, ad141.off + 1, none⟩ = some (.int .i64 ((rd_T107 x9_2 0).f1)) ∧ w'.cell? ⟨ad141.block, ad141.off + 2, none⟩ = some (.slice A141_2 ((rd_T107 x9_2 0).f2).length c141_2) ∧ w'.cell? ⟨ad141.block, ad141.off + 3, none⟩ = some (.bool ((rd_T107 x9_2 0).f3))) (ds := [6, 7]) #[false, false, false, false, false, false, false, false] (by kernel_rfl) rfl rfl ⟨(blk_cell BK130.out 0).trans rfl, hx141_0, hx141_1, hx141_2, hx141_3⟩ (fun hHeld => ?_); refine with_tabW bakeref2_Guarded.tab18 bakeref2_Guarded.bits18 (fun HT_ HW_ => ?_)
                              generalize w69.drew = w74 at HO_9 HO_15 HO_21 HO_131000 HO139 BK129 BK130 HB HL141_2 HR141_2 hx141_0 hx141_1 hx141_2 hx141_3 hHeld ⊢
                              refine pure_ (i := 1) (N := some 73) (v := ?_) (a' := ?_) #[false, true, false, false, false, false, false, false] rfl rfl (any_of HT_.out (by kernel_rfl)) (fun _ _ _ h => h) (Or.inl ⟨by rfl, ?_⟩) ?_ ?_
                              rotate_left
                              · intro w'
                                go_simp
                                with_reducible rfl
                              rotate_left
                              · simp only [Act.put, List.setIfInBounds_toArray, List.set_cons_zero, List.set_cons_succ, i64_w, i32_w]
                                rfl
                              refine pure_ (i := 2) (N := some 74) (v := ?_) (a' := ?_) #[false, true, true, false, false, false, false, false] rfl rfl (any_of HT_.out (by kernel_rfl)) (fun _ _ _ h => h) (Or.inl ⟨by rfl, ?_⟩) ?_ ?_
                              rotate_left
                              · intro w'
                                go_simp
                                with_reducible rfl
                              rotate_left
                              · simp only [Act.put, List.setIfInBounds_toArray, List.set_cons_zero, List.set_cons_succ, i64_w, i32_w]
                                rfl
                              refine pure_ (i := 3) (N := some 75) (v := ?_) (a' := ?_) #[false, true, true, true, false, false, false, false] rfl rfl (any_of HT_.out (by kernel_rfl)) (fun _ _ _ h => h) (Or.inl ⟨by rfl, ?_⟩) ?_ ?_
                              rotate_left
                              · intro w'
                                go_simp
                                with_reducible rfl
                              rotate_left
                              · simp only [Act.put, List.setIfInBounds_toArray, List.set_cons_zero, List.set_cons_succ, i64_w, i32_w]
                                rfl
                              refine take_ (i := 0) (N := some 72) (v := ?_) (a' := ?_) #[true, true, true, true, false, false, false, false] rfl rfl (take_ofW HT_.out HW_.out (by kernel_rfl)) (fun _ _ _ h => h) (Or.inl ⟨by rfl, ?_⟩) hHeld ?_ ?_
                              rotate_left
                              · rintro w' ⟨s0, s1, s2, s3, s4⟩
                                go_simp
                                with_reducible rfl
                              rotate_left
                              · simp only [Act.put, List.setIfInBounds_toArray, List.set_cons_zero, List.set_cons_succ, i64_w, i32_w]
                                rfl
                              refine take_ (i := 4) (N := some 76) (v := ?_) (a' := ?_) #[true, true, true, true, true, false, false, false] rfl rfl (take_ofW HT_.out HW_.out (by kernel_rfl)) (fun _ _ _ h => h) (Or.inl ⟨by rfl, ?_⟩) hHeld ?_ ?_
                              rotate_left
                              · rintro w' ⟨s0, s1, s2, s3, s4⟩
                                go_simp
                                with_reducible rfl
                              rotate_left
                              · simp only [Act.put, List.setIfInBounds_toArray, List.set_cons_zero, List.set_cons_succ, i64_w, i32_w]
                                rfl
                              refine one_ (i := 5) (N := some 77) #[true, true, true, true, true, true, false, false] rfl rfl (one_of HT_.out (by kernel_rfl)) (by decide) (fun K hK => ?_)
                              refine value_ (w1 := ?_) (v := ?_) (by rfl) rfl ?_ ?_
                              rotate_left 2
                              · go_simp
                                constructor
                                · rfl
                                · rfl
                              refine hK.out _ _ ⟨(blk_cell (blk_alloc BK130.out _) 0).trans rfl, (World.cell?_alloc_lt _ _ _ (World.block_lt_of_cell? _ _ (hHeld.2.1))).trans (hHeld.2.1), (World.cell?_alloc_lt _ _ _ (World.block_lt_of_cell? _ _ (hHeld.2.2.1))).trans (hHeld.2.2.1), (World.cell?_alloc_lt _ _ _ (World.block_lt_of_cell? _ _ (hHeld.2.2.2.1))).trans (hHeld.2.2.2.1), (World.cell?_alloc_lt _ _ _ (World.block_lt_of_cell? _ _ (hHeld.2.2.2.2))).trans (hHeld.2.2.2.2)⟩ (fun hHeld => ?_)
                              clear hK K
                              refine norm_ (a' := ?_) ?_ ?_
                              rotate_left
                              · show Act.put _ (some 77) _ = _
                                simp only [Act.put, List.setIfInBounds_toArray, List.set_cons_zero, List.set_cons_succ, i64_w, i32_w]
                                rfl
                              refine last_ (i := 6) (N := some 78) #[true, true, true, true, true, true, true, false] rfl rfl (one_of HT_.out (by kernel_rfl)) (by decide) (fun K hK => ?_)
                              refine Kd.N_append_step (Kd.slice 5 (Kd.int .u8)) (w0 := w) w.heap.size (by rfl) (.tmp 72) (.tmp 77) 80 22 (.slice none 0 0) 24 rfl Try.underlying80 info22 rfl (by decide) (by omega) u131000 x131000_1 ((rd_T107 x9_2 0).f2) [.slice A141_2 ((rd_T107 x9_2 0).f2).length c141_2] (fun k_ => (P1_ k_ ∨ w.heap.size ≤ k_) ∧ some k_ ≠ (.slice (some ad141) x9_2.length co68 : Value).ownBlock ∧ some k_ ≠ (.slice (some ad140) y137.length co73 : Value).ownBlock ∧ k_ ≠ gb129 ∧ k_ ≠ gb130) (fun k_ => ((fun k_ => (P1_ k_ ∨ w.heap.size ≤ k_) ∧ some k_ ≠ (.slice (some ad141) x9_2.length co68 : Value).ownBlock ∧ some k_ ≠ (.slice (some ad140) y137.length co73 : Value).ownBlock ∧ k_ ≠ gb129 ∧ k_ ≠ gb130)) k_ ∧ some k_ ≠ (u131000 : Value).ownBlock) rfl rfl ?aP (fun _ hk => hk) ?aF ?aO ?aB ?aS ?aL ?_
                              (case aP => exact (Kd.FK_slice_mk (Kd.V_reads' (Kd.V_mono (ok' := (fun k_ => ((fun k_ => (P1_ k_ ∨ w.heap.size ≤ k_) ∧ some k_ ≠ (.slice (some ad141) x9_2.length co68 : Value).ownBlock ∧ some k_ ≠ (.slice (some ad140) y137.length co73 : Value).ownBlock ∧ k_ ≠ gb129 ∧ k_ ≠ gb130)) k_ ∧ some k_ ≠ (u131000 : Value).ownBlock)) (HL141_2.out) (fun k_ hk => ⟨⟨hk.1.1.1, ⟨hk.2, ⟨hk.1.2, ⟨hk.1.1.2.2.1, hk.1.1.2.2.2⟩⟩⟩⟩, hk.1.1.2.1⟩))).2.1 (Kd.V_F (Kd.V_mono (ok' := (fun k_ => ((fun k_ => (P1_ k_ ∨ w.heap.size ≤ k_) ∧ some k_ ≠ (.slice (some ad141) x9_2.length co68 : Value).ownBlock ∧ some k_ ≠ (.slice (some ad140) y137.length co73 : Value).ownBlock ∧ k_ ≠ gb129 ∧ k_ ≠ gb130)) k_ ∧ some k_ ≠ (u131000 : Value).ownBlock)) (HL141_2.out) (fun k_ hk => ⟨⟨hk.1.1.1, ⟨hk.2, ⟨hk.1.2, ⟨hk.1.1.2.2.1, hk.1.1.2.2.2⟩⟩⟩⟩, hk.1.1.2.1⟩)))))
                              (case aB => exact (by repeat (first | (with_reducible first | exact HB.out | apply below_alloc | apply pw_below_drewN | apply below_drew1 | refine below_set ?_ GE129.out | refine below_set ?_ GE130.out) | exact HB.out)))
                              (case aF => exact (fun k_ hk => ⟨(.inr (Nat.le_trans (below_size (by repeat (first | (with_reducible first | exact HB.out | apply below_alloc | apply pw_below_drewN | apply below_drew1 | refine below_set ?_ GE129.out | refine below_set ?_ GE130.out) | exact HB.out))) hk)), Kd.fresh' (Kd.N_lt (by (with_reducible repeat (first | apply Kd.N_alloc | apply Kd.N_drewN | apply Kd.N_drew)); exact HO_9.out)) k_ hk, Kd.fresh' (Kd.R_lt (by (with_reducible repeat (first | apply Kd.R_alloc | apply Kd.R_drewN | apply Kd.R_drew)); exact HO139.out)) k_ hk, Kd.freshB (g := gb129) (o := .cells #[.int .i64 a0_0, .int .i64 a0_1, .int .i64 a0_2] 29 (0, 0)) (by (with_reducible repeat (first | refine blk_drewN ?_ _ | refine blk_drew ?_ | refine blk_alloc ?_ _)); exact BK129.out) k_ hk, Kd.freshB (g := gb130) (o := .cells #[u131000] 80 (0, 0)) (by (with_reducible repeat (first | refine blk_drewN ?_ _ | refine blk_drew ?_ | refine blk_alloc ?_ _)); exact BK130.out) k_ hk⟩))
                              (case aO => exact (by (with_reducible repeat (first | apply Kd.N_alloc | apply Kd.N_drewN | apply Kd.N_drew)); exact Kd.N_mono HO_131000.out (fun _ hk => ⟨hk.1.1, ⟨hk.1.2.1, ⟨hk.2, ⟨hk.1.2.2.1, hk.1.2.2.2⟩⟩⟩⟩)))
                              (case aS => exact (below_size (by repeat (first | (with_reducible first | exact HB.out | apply below_alloc | apply pw_below_drewN | apply below_drew1 | refine below_set ?_ GE129.out | refine below_set ?_ GE130.out) | exact HB.out))))
                              (case aL => have := LMc67.out; omega)
                              intro v143 w75 ho hb hg hat
                              rw [← Ny142.out] at ho
                              have n0_ := Aside0.mk (Kd.N_afterv (ok := (fun k_ => (P1_ k_ ∨ w.heap.size ≤ k_) ∧ some k_ ≠ (.slice (some ad140) y137.length co73 : Value).ownBlock ∧ k_ ≠ gb129 ∧ k_ ≠ gb130)) (by (with_reducible repeat (first | apply Kd.N_alloc | apply Kd.N_drewN | apply Kd.N_drew)); exact Kd.N_mono HO_9.out (fun _ hk => ⟨⟨hk.1.1, ⟨hk.2, ⟨hk.1.2.2.1, hk.1.2.2.2⟩⟩⟩, hk.1.2.1⟩)) hg hat)
                              have n1_ := Aside0.mk (Kd.V_afterv (ok := (fun k_ => (P1_ k_ ∨ w.heap.size ≤ k_) ∧ some k_ ≠ (.slice (some ad141) x9_2.length co68 : Value).ownBlock ∧ some k_ ≠ (.slice (some ad140) y137.length co73 : Value).ownBlock ∧ k_ ≠ gb129 ∧ k_ ≠ gb130)) (by (with_reducible repeat (first | apply Kd.V_alloc | apply Kd.V_drewN | apply Kd.V_drew)); exact Kd.V_mono HO_15.out (fun _ hk => ⟨⟨hk.1.1, ⟨hk.1.2.1, ⟨hk.2, ⟨hk.1.2.2.2.1, hk.1.2.2.2.2⟩⟩⟩⟩, hk.1.2.2.1⟩)) hg hat)
                              have n2_ := Aside0.mk (Kd.V_afterv (ok := (fun k_ => (P1_ k_ ∨ w.heap.size ≤ k_) ∧ some k_ ≠ (.slice (some ad141) x9_2.length co68 : Value).ownBlock ∧ some k_ ≠ (.slice (some ad140) y137.length co73 : Value).ownBlock ∧ k_ ≠ gb129 ∧ k_ ≠ gb130)) (by (with_reducible repeat (first | apply Kd.V_alloc | apply Kd.V_drewN | apply Kd.V_drew)); exact Kd.V_mono HO_21.out (fun _ hk => ⟨⟨hk.1.1, ⟨hk.1.2.1, ⟨hk.2, ⟨hk.1.2.2.2.1, hk.1.2.2.2.2⟩⟩⟩⟩, hk.1.2.2.1⟩)) hg hat)
                              have n3_ := Aside0.mk (blk_grown (g := gb129) (o := .cells #[.int .i64 a0_0, .int .i64 a0_1, .int .i64 a0_2] 29 (0, 0)) (by (with_reducible repeat (first | refine blk_drewN ?_ _ | refine blk_drew ?_ | refine blk_alloc ?_ _)); exact BK129.out) hg (Kd.N_ne HO_131000.out BK129.out (by decide)))
                              have n4_ := Aside0.mk (blk_grown (g := gb130) (o := .cells #[u131000] 80 (0, 0)) (by (with_reducible repeat (first | refine blk_drewN ?_ _ | refine blk_drew ?_ | refine blk_alloc ?_ _)); exact BK130.out) hg (Kd.N_ne HO_131000.out BK130.out (by decide)))
                              have n5_ := Aside0.mk (Kd.R_over' (by (with_reducible repeat (first | apply Kd.R_alloc | apply Kd.R_drewN | apply Kd.R_drew)); exact HO139.out) (Kd.N_typed (by (with_reducible repeat (first | apply Kd.N_alloc | apply Kd.N_drewN | apply Kd.N_drew)); exact HO_131000.out)) (by decide) hg)
                              have n6_ := Aside0.mk (Kd.V_afterv (ok := (fun k_ => (P1_ k_ ∨ w.heap.size ≤ k_) ∧ some k_ ≠ (.slice (some ad141) x9_2.length co68 : Value).ownBlock ∧ some k_ ≠ (.slice (some ad140) y137.length co73 : Value).ownBlock ∧ k_ ≠ gb129 ∧ k_ ≠ gb130)) (by (with_reducible repeat (first | apply Kd.V_alloc | apply Kd.V_drewN | apply Kd.V_drew)); exact Kd.V_mono HL141_2.out (fun _ hk => ⟨⟨hk.1.1.1, ⟨hk.2, ⟨hk.1.2, ⟨hk.1.1.2.2.1, hk.1.1.2.2.2⟩⟩⟩⟩, hk.1.1.2.1⟩)) hg hat)
                              have n7_ := Aside0.mk (hb)
                              have n8_ := Aside0.mk (ho)
                              clear HO_9
                              clear HO_15
                              clear HO_21
                              clear BK129
                              clear BK130
                              clear HO139
                              clear HL141_2
                              clear HB
                              clear HO_131000
                              have HO_9 := n0_
                              have HO_15 := n1_
                              have HO_21 := n2_
                              have BK129 := n3_
                              have BK130 := n4_
                              have HO139 := n5_
                              have HL141_2 := n6_
                              have HB := n7_
                              have HO144 := n8_
                              clear n0_ n1_ n2_ n3_ n4_ n5_ n6_ n7_ n8_
                              clear ho hb hg hat
                              obtain ⟨Ao76, co76, eo76⟩ := Kd.N_slice HO144.out
                              (first | subst eo76 | (injection eo76 with f1_ f2_ f3_; have f4_ := f1_.symm; have f5_ := f3_.symm; clear f1_ f2_ f3_; subst f4_; subst f5_))
                              refine hK.out _ _ ?_
                              clear hK K
                              refine norm_ (a' := ?_) ?_ ?_
                              rotate_left
                              · show Act.put _ (some 78) _ = _
                                simp only [Act.put, List.setIfInBounds_toArray, List.set_cons_zero, List.set_cons_succ, i64_w, i32_w]
                                rfl
                              refine last_ (i := 7) (N := none) #[true, true, true, true, true, true, true, true] rfl rfl (one_of HT_.out (by kernel_rfl)) (by decide) (fun K hK => ?_)
                              have hs77 : w75.cell? ⟨gb130, 0, none⟩ = some (u131000) := (blk_cell BK130.out 0).trans rfl
                              have hfs77 := blk_frozen BK130.out 0
                              have hns77_0 := NB129_130.out
                              have hms77_0 := NB130_129.out
                              refine skip_ (w1 := ?_) (by rfl) rfl ?_ ?_
                              rotate_left
                              · go_simp
                                rfl
                              refine hK.out _ _ ?_
                              clear hK K
                              refine done_ (done_of HT_.out (by kernel_rfl)) ?_
                              try go_wp2
                              go_roundg k2
                              case measure => have := HK1.out; have := HK2.out; omega
                              case rel => exact ⟨(rdOf false y137 a0_0), (wrap64 (x17_1 + 1)), (y142), (.slice Ao76 y142.length co76), (by first | rfl | (simp; done) | (simp [*]; done)), (by first | rfl | (simp; done) | (simp [*]; done)), H', ⟨by have := HK1.out; have := HK2.out; omega⟩, ⟨by (with_reducible repeat (first | apply Kd.V_alloc | apply Kd.V_drewN | apply Kd.V_drew)); exact Kd.V_mono (Kd.V_far (p := ⟨gb130, 0, none⟩) (Kd.V_mono HO_15.out (fun k_ hk => (⟨hk, hk.1.2.2.2.2⟩ : _ ∧ k_ ≠ gb130))) (fun _ hk => hk.2) (.slice Ao76 y142.length co76)) (fun _ hk => ⟨hk.1.1.1, ⟨hk.1.2, ⟨hk.1.1.2.2.2.1, hk.1.1.2.2.2.2⟩⟩⟩)⟩, ⟨by (with_reducible repeat (first | apply Kd.N_alloc | apply Kd.N_drewN | apply Kd.N_drew)); exact Kd.N_mono (Kd.N_far (p := ⟨gb130, 0, none⟩) (Kd.N_mono HO144.out (fun k_ hk => (⟨hk, hk.2.2.2.2⟩ : _ ∧ k_ ≠ gb130))) (fun _ hk => hk.2) (.slice Ao76 y142.length co76)) (fun _ hk => ⟨hk.1.1, ⟨hk.1.2.2.2.1, hk.1.2.2.2.2⟩⟩)⟩, ⟨by (with_reducible repeat (first | refine blk_drewN ?_ _ | refine blk_drew ?_ | refine blk_alloc ?_ _)); refine blk_far ?_ NB129_130.out _; (with_reducible repeat (first | refine blk_drewN ?_ _ | refine blk_drew ?_ | refine blk_alloc ?_ _)); exact BK129.out⟩, ⟨by (with_reducible repeat (first | refine blk_drewN ?_ _ | refine blk_drew ?_ | refine blk_alloc ?_ _)); refine blk_put (cs := #[u131000]) ?_ 0 _ rfl; (with_reducible repeat (first | refine blk_drewN ?_ _ | refine blk_drew ?_ | refine blk_alloc ?_ _)); exact BK130.out⟩, ⟨by repeat (first | (with_reducible first | exact HB.out | apply below_alloc | apply pw_below_drewN | apply below_drew1 | refine below_set ?_ GE129.out | refine below_set ?_ GE130.out) | exact HB.out)⟩⟩
                            · rw [if_neg c67] at H
                              exact absurd H (by simp)
                          · rw [if_neg c66] at H
                            exact absurd H (by simp)
                        · rw [if_neg c65] at H
                          exact absurd H (by simp)
                      · rw [if_neg c64] at H
                        exact absurd H (by simp)
                    · rw [if_neg c63] at H
                      have c63b0 : decide (0 < (x9_2.length : Int)) = false := decide_eq_false c63
                      have c63b1 : decide (0 < x9_2.length) = false := decide_eq_false (by omega)
                      clear c63
                      obtain ⟨y145, hy145⟩ : ∃ y_ : List Bool, y_ = (([((x9_2.length : Int) == 0), false, decide ((x9_2.length : Int) > 1), true, x11_2] : List Bool)) := ⟨_, rfl⟩
                      replace H : (if 0 ≤ a0_0 then (if a0_0 < (y145.length : Int) then (bakeref2_Guarded.l0 k2 (rdOf false y145 a0_0) l1 (l1.length : Int) (wrap64 (x17_1 + 1)) a0_0 a0_1 a0_2 x131000_1) else (none)) else (none)) = some r := by first | (rw [hy145]; with_reducible exact H) | (have H2_ := (Option.bind_some _ _).symm.trans H; rw [hy145]; with_reducible exact H2_) | (have H2_ := (Option.bind_some _ _).symm.trans H; with_reducible exact H2_) | with_reducible exact H | (rw [hy145]; exact H) | exact H
                      have Ny145 := Aside0.mk hy145
                      clear hy145
                      by_cases c78 : 0 ≤ a0_0
                      · rw [if_pos c78] at H
                        have c78b0 : decide (0 ≤ a0_0) = true := decide_eq_true c78
                        clear c78
                        by_cases c79 : a0_0 < (y145.length : Int)
                        · rw [if_pos c79] at H
                          have c79b0 : decide (a0_0 < (y145.length : Int)) = true := decide_eq_true c79
                          clear c79
                          have H' := Aside0.mk H
                          clear H
                          obtain ⟨Ao80, co80, eo80⟩ := Kd.N_slice HO_9.out
                          subst eo80
                          go_wp2_with (first | ((with_reducible refine gate_dst (N := 64) rfl ?_); (try (refine gate_guard (by rfl) ?_; dsimp only)); refine Kd.R_lit Kd.bool _ 4 ?hg (N := 64) ?hd (xs := ([((x9_2.length : Int) == 0), false, decide ((x9_2.length : Int) > 1), true, x11_2] : List Bool)) (inner := [.bool ((x9_2.length : Int) == 0), .bool false, .bool (decide ((x9_2.length : Int) > 1)), .bool true, .bool x11_2]) (ok := fun _ => True) (okp := fun _ => True) ?hr ?hp (fun _ hk => hk) trivial (Below.refl _ _) (Nat.le_refl _) (by simp) ?_; (case hd => rfl); (case hg => rfl); (case hr => first | (go_simp; done) | (go_simp; rfl)); (case hp => exact (Reps.one (show Kd.M Kd.bool _ _ _ ((x9_2.length : Int) == 0) [.bool ((x9_2.length : Int) == 0)] from rfl) (Reps.one (show Kd.M Kd.bool _ _ _ false [.bool false] from rfl) (Reps.one (show Kd.M Kd.bool _ _ _ (decide ((x9_2.length : Int) > 1)) [.bool (decide ((x9_2.length : Int) > 1))] from rfl) (Reps.one (show Kd.M Kd.bool _ _ _ true [.bool true] from rfl) (Reps.one (show Kd.M Kd.bool _ _ _ x11_2 [.bool x11_2] from rfl) (Reps.none _ _))))))); intro v146 w81 ho82 hb hg_ hnew_; clear hg_ hnew_; (first | rw [← Ny145.out] at ho82 | (simp only [Int.reduceToNat] at ho82; rw [← Ny145.out] at ho82)); have n0_ := Aside0.mk (Kd.N_elder' (by (with_reducible repeat (first | apply Kd.N_alloc | apply Kd.N_drewN | apply Kd.N_drew)); exact HO_9.out) (Kd.R_base ho82) hb); have n1_ := Aside0.mk (Kd.V_elder' (by (with_reducible repeat (first | apply Kd.V_alloc | apply Kd.V_drewN | apply Kd.V_drew)); exact HO_15.out) (Kd.R_base ho82) hb); have n2_ := Aside0.mk (Kd.V_elder' (by (with_reducible repeat (first | apply Kd.V_alloc | apply Kd.V_drewN | apply Kd.V_drew)); exact HO_21.out) (Kd.R_base ho82) hb); have n3_ := Aside0.mk (Kd.N_elder' (by (with_reducible repeat (first | apply Kd.N_alloc | apply Kd.N_drewN | apply Kd.N_drew)); exact HO_131000.out) (Kd.R_base ho82) hb); have n4_ := Aside0.mk (Kd.R_lower (Kd.R_newM (M := fun k_ => (w.heap.size ≤ k_)) ho82 (below_size (by repeat (first | (with_reducible first | exact HB.out | apply below_alloc | apply pw_below_drewN | apply below_drew1 | refine below_set ?_ GE129.out | refine below_set ?_ GE130.out) | exact HB.out))) (fun k_ h_ => h_)) (below_size (by repeat (first | (with_reducible first | exact HB.out | apply below_alloc | apply pw_below_drewN | apply below_drew1 | refine below_set ?_ GE129.out | refine below_set ?_ GE130.out) | exact HB.out)))); have n5_ := Aside0.mk (blk_below (g := gb129) (o := .cells #[.int .i64 a0_0, .int .i64 a0_1, .int .i64 a0_2] 29 (0, 0)) (by (with_reducible repeat (first | refine blk_drewN ?_ _ | refine blk_drew ?_ | refine blk_alloc ?_ _)); exact BK129.out) hb); have n6_ := Aside0.mk (blk_below (g := gb130) (o := .cells #[u131000] 80 (0, 0)) (by (with_reducible repeat (first | refine blk_drewN ?_ _ | refine blk_drew ?_ | refine blk_alloc ?_ _)); exact BK130.out) hb); have n7_ := Aside0.mk (below_step (by repeat (first | (with_reducible first | exact HB.out | apply below_alloc | apply pw_below_drewN | apply below_drew1 | refine below_set ?_ GE129.out | refine below_set ?_ GE130.out) | exact HB.out)) hb); clear HO_9; clear HO_15; clear HO_21; clear HO_131000; clear BK129; clear BK130; clear HB; have HO_9 := n0_; have HO_15 := n1_; have HO_21 := n2_; have HO_131000 := n3_; have HO147 := n4_; have BK129 := n5_; have BK130 := n6_; have HB := n7_; clear n0_ n1_ n2_ n3_ n4_ n5_ n6_ n7_; clear hb ho82; have hnb83 := NB129_130.out; have hnc83 := NB130_129.out; have hcz84_0 : w81.cell? ⟨gb129, 0, none⟩ = some (.int .i64 a0_0) := (blk_cell BK129.out 0).trans rfl; have hcz84_1 : w81.cell? ⟨gb129, 1, none⟩ = some (.int .i64 a0_1) := (blk_cell BK129.out 1).trans rfl; have hcz84_2 : w81.cell? ⟨gb129, 2, none⟩ = some (.int .i64 a0_2) := (blk_cell BK129.out 2).trans rfl; have hfz84_0 := blk_frozen BK129.out 0; have hfz84_1 := blk_frozen BK129.out 1; have hfz84_2 := blk_frozen BK129.out 2; obtain ⟨Ao85, co85, eo85⟩ := Kd.R_slice HO147.out; subst eo85; have p148 : 0 ≤ (a0_0 : Int) := of_decide_eq_true (by first | (with_reducible assumption) | assumption); have q148 : a0_0 < (y145.length : Int) := of_decide_eq_true (by first | (with_reducible assumption) | assumption); obtain ⟨ad148, e148, hx148_0⟩ := Kd.at_bool (Kd.R_reads' HO147.out).2.2 a0_0 p148 q148; cases e148; replace p148 := eq_true p148; replace q148 := eq_true q148) | (go_at_call 72; go_in) | (go_at_call 87; go_in) | (go_at_call 111; go_in) | ((try simp only [Exit.inBlock, Exit.then]); refine bodyPost_end (results_none rfl _ _ _) rfl ?_; simp only []; go_at_K) | ((try simp only [Exit.inBlock, Exit.then]); refine bodyPost_ret (results_none rfl _ _ _) rfl ?_; simp only []; go_at_K))
                          go_roundg k2
                          case measure => have := HK1.out; have := HK2.out; omega
                          case rel => exact ⟨(rdOf false y145 a0_0), (wrap64 (x17_1 + 1)), (x131000_1), (u131000), (by first | rfl | (simp; done) | (simp [*]; done)), (by first | rfl | (simp; done) | (simp [*]; done)), H', ⟨by have := HK1.out; have := HK2.out; omega⟩, ⟨by (with_reducible repeat (first | apply Kd.V_alloc | apply Kd.V_drewN | apply Kd.V_drew)); exact Kd.V_mono HO_15.out (fun _ hk => ⟨hk.1.1, ⟨hk.1.2.2.1, ⟨hk.1.2.2.2.1, hk.1.2.2.2.2⟩⟩⟩)⟩, ⟨by (with_reducible repeat (first | apply Kd.N_alloc | apply Kd.N_drewN | apply Kd.N_drew)); exact Kd.N_mono HO_131000.out (fun _ hk => ⟨hk.1.1, ⟨hk.1.2.2.1, hk.1.2.2.2⟩⟩)⟩, ⟨by (with_reducible repeat (first | refine blk_drewN ?_ _ | refine blk_drew ?_ | refine blk_alloc ?_ _)); exact BK129.out⟩, ⟨by (with_reducible repeat (first | refine blk_drewN ?_ _ | refine blk_drew ?_ | refine blk_alloc ?_ _)); exact BK130.out⟩, ⟨by repeat (first | (with_reducible first | exact HB.out | apply below_alloc | apply pw_below_drewN | apply below_drew1 | refine below_set ?_ GE129.out | refine below_set ?_ GE130.out) | exact HB.out)⟩⟩
                        · rw [if_neg c79] at H
                          exact absurd H (by simp)
                      · rw [if_neg c78] at H
                        exact absurd H (by simp)
                  · replace c62 := Bool.eq_false_iff.mpr c62
                    subst c62
                    have H1 : (if (x9_2.length : Int) > 0 then (if 0 < (x9_2.length : Int) then (if x131000_1.length < 5864062014805 then (bakeref2_Guarded.l0 k2 false l1 (l1.length : Int) (wrap64 (x17_1 + 1)) a0_0 a0_1 a0_2 (x131000_1 ++ [(rd_T107 x9_2 0).f2])) else (none)) else (none)) else (bakeref2_Guarded.l0 k2 false l1 (l1.length : Int) (wrap64 (x17_1 + 1)) a0_0 a0_1 a0_2 x131000_1)) = some r := by rw [if_neg (show ¬ (false = true) by decide)] at H; exact H
                    clear H
                    have H := H1
                    clear H1
                    by_cases c86 : (x9_2.length : Int) > 0
                    · rw [if_pos c86] at H
                      have c86b0 : decide (0 < (x9_2.length : Int)) = true := decide_eq_true c86
                      have c86b1 : decide (0 < x9_2.length) = true := decide_eq_true (by omega)
                      clear c86
                      by_cases c87 : 0 < (x9_2.length : Int)
                      · rw [if_pos c87] at H
                        have c87b0 : decide (0 < (x9_2.length : Int)) = true := decide_eq_true c87
                        have c87b1 : decide (0 < x9_2.length) = true := decide_eq_true (by omega)
                        clear c87
                        by_cases c88 : x131000_1.length < 5864062014805
                        · rw [if_pos c88] at H
                          have LMc88 := Aside0.mk c88
                          clear c88
                          obtain ⟨y150, hy150⟩ : ∃ y_ : List (List Int), y_ = (x131000_1 ++ [(rd_T107 x9_2 0).f2]) := ⟨_, rfl⟩
                          replace H : (bakeref2_Guarded.l0 k2 false l1 (l1.length : Int) (wrap64 (x17_1 + 1)) a0_0 a0_1 a0_2 y150) = some r := by first | (rw [hy150]; with_reducible exact H) | (have H2_ := (Option.bind_some _ _).symm.trans H; rw [hy150]; with_reducible exact H2_) | (have H2_ := (Option.bind_some _ _).symm.trans H; with_reducible exact H2_) | with_reducible exact H | (rw [hy150]; exact H) | exact H
                          have Ny150 := Aside0.mk hy150
                          clear hy150
                          have H' := Aside0.mk H
                          clear H
                          obtain ⟨Ao89, co89, eo89⟩ := Kd.N_slice HO_9.out
                          subst eo89
                          try go_wp2
                          have n0_ := Aside0.mk (Kd.N_drew HO_9.out)
                          have n1_ := Aside0.mk (Kd.V_drew HO_15.out)
                          have n2_ := Aside0.mk (Kd.V_drew HO_21.out)
                          have n3_ := Aside0.mk (Kd.N_drew HO_131000.out)
                          have n4_ := Aside0.mk (blk_drew BK129.out)
                          have n5_ := Aside0.mk (blk_drew BK130.out)
                          have n6_ := Aside0.mk (below_drew1 HB.out)
                          clear HO_9
                          clear HO_15
                          clear HO_21
                          clear HO_131000
                          clear BK129
                          clear BK130
                          clear HB
                          have HO_9 := n0_
                          have HO_15 := n1_
                          have HO_21 := n2_
                          have HO_131000 := n3_
                          have BK129 := n4_
                          have BK130 := n5_
                          have HB := n6_
                          clear n0_ n1_ n2_ n3_ n4_ n5_ n6_
                          have p149 : 0 ≤ (0 : Int) := (by omega)
                          have q149 : 0 < (x9_2.length : Int) := of_decide_eq_true (by first | (with_reducible assumption) | assumption)
                          obtain ⟨ad149, A149_2, c149_2, e149, hx149_0, hx149_1, hx149_2, hx149_3, hl149_2, hi149_2⟩ := at_T107 (Kd.N_reads' HO_9.out).2.2 0 p149 q149
                          cases e149
                          obtain ⟨ce149, hce149, hMe149, hcc149⟩ := Kd.N_get HO_9.out z107 0 p149 (by first | exact q149 | exact of_decide_eq_true (by first | (with_reducible assumption) | assumption) | (have e_ := (Kd.N_reads' HO_9.out).1; omega))
                          obtain ⟨ua149_2, uc149_2, rfl, ul149_2, ge149_2⟩ := k107_openF hMe149
                          have hv149_2 := hcc149 2 _ rfl
                          rw [add_field _ _ 2 (by omega)] at hv149_2
                          replace hv149_2 := Option.some.inj (hv149_2.symm.trans hx149_2)
                          injection hv149_2 with hva_ hvn_ hvc_
                          rw [hva_] at ge149_2
                          rw [hvc_] at ul149_2
                          have HL149_2 := Aside0.mk (show Kd.V (Kd.int .u8) 5 _ w.heap.size _ _ ((rd_T107 x9_2 0).f2) from Kd.V_mk ul149_2 ge149_2)
                          clear hva_ hvn_ hvc_ ge149_2 ul149_2
                          clear hcc149 hce149
                          have qi149 : (0 < x9_2.length) = True := eq_true (by omega)
                          (try rw [show ((0 : Int)).toNat = 0 from rfl] at hx149_0)
                          (try rw [show 0 * 4 = 0 from rfl] at hx149_0)
                          (try rw [Addr.add_zero'] at hx149_0)
                          (try rw [show ((0 : Int)).toNat = 0 from rfl] at hx149_1)
                          (try rw [show 0 * 4 = 0 from rfl] at hx149_1)
                          (try rw [Addr.add_zero'] at hx149_1)
                          (try rw [show ((0 : Int)).toNat = 0 from rfl] at hx149_2)
                          (try rw [show 0 * 4 = 0 from rfl] at hx149_2)
                          (try rw [Addr.add_zero'] at hx149_2)
                          (try rw [show ((0 : Int)).toNat = 0 from rfl] at hx149_3)
                          (try rw [show 0 * 4 = 0 from rfl] at hx149_3)
                          (try rw [Addr.add_zero'] at hx149_3)
                          have HR149_2 := Aside0.mk hi149_2
                          have HC149_2 := Aside0.mk hl149_2
                          clear hi149_2 hl149_2
                          replace p149 := eq_true p149
                          replace q149 := eq_true q149
                          refine start_ (n := 8) (S := fun w' => w'.cell? ⟨gb130, 0, none⟩ = some (u131000) ∧ w'.cell? ad149 = some (.int .i64 ((rd_T107 x9_2 0).f0)) ∧ w'.cell? ⟨ad149.block, ad149.off + 1, none⟩ = some (.int .i64 ((rd_T107 x9_2 0).f1)) ∧ w'.cell? ⟨ad149.block, ad149.off + 2, none⟩ = some (.slice A149_2 ((rd_T107 x9_2 0).f2).length c149_2) ∧ w'.cell? ⟨ad149.block, ad149.off + 3, none⟩ = some (.bool ((rd_T107 x9_2 0).f3))) (ds := [6, 7]) #[false, false, false, false, false, false, false, false] (by kernel_rfl) rfl rfl ⟨(blk_cell BK130.out 0).trans rfl, hx149_0, hx149_1, hx149_2, hx149_3⟩ (fun hHeld => ?_); refine with_tabW bakeref2_Guarded.tab18 bakeref2_Guarded.bits18 (fun HT_ HW_ => ?_)
                          generalize wr.drew = w90 at HO_9 HO_15 HO_21 HO_131000 BK129 BK130 HB HL149_2 HR149_2 hx149_0 hx149_1 hx149_2 hx149_3 hHeld ⊢
                          refine pure_ (i := 1) (N := some 73) (v := ?_) (a' := ?_) #[false, true, false, false, false, false, false, false] rfl rfl (any_of HT_.out (by kernel_rfl)) (fun _ _ _ h => h) (Or.inl ⟨by rfl, ?_⟩) ?_ ?_
                          rotate_left
                          · intro w'
                            go_simp
                            with_reducible rfl
                          rotate_left
                          · simp only [Act.put, List.setIfInBounds_toArray, List.set_cons_zero, List.set_cons_succ, i64_w, i32_w]
                            rfl
                          refine pure_ (i := 2) (N := some 74) (v := ?_) (a' := ?_) #[false, true, true, false, false, false, false, false] rfl rfl (any_of HT_.out (by kernel_rfl)) (fun _ _ _ h => h) (Or.inl ⟨by rfl, ?_⟩) ?_ ?_
                          rotate_left
                          · intro w'
                            go_simp
                            with_reducible rfl
                          rotate_left
                          · simp only [Act.put, List.setIfInBounds_toArray, List.set_cons_zero, List.set_cons_succ, i64_w, i32_w]
                            rfl
                          refine pure_ (i := 3) (N := some 75) (v := ?_) (a' := ?_) #[false, true, true, true, false, false, false, false] rfl rfl (any_of HT_.out (by kernel_rfl)) (fun _ _ _ h => h) (Or.inl ⟨by rfl, ?_⟩) ?_ ?_
                          rotate_left
                          · intro w'
                            go_simp
                            with_reducible rfl
                          rotate_left
                          · simp only [Act.put, List.setIfInBounds_toArray, List.set_cons_zero, List.set_cons_succ, i64_w, i32_w]
                            rfl
                          refine take_ (i := 0) (N := some 72) (v := ?_) (a' := ?_) #[true, true, true, true, false, false, false, false] rfl rfl (take_ofW HT_.out HW_.out (by kernel_rfl)) (fun _ _ _ h => h) (Or.inl ⟨by rfl, ?_⟩) hHeld ?_ ?_
                          rotate_left
                          · rintro w' ⟨s0, s1, s2, s3, s4⟩
                            go_simp
                            with_reducible rfl
                          rotate_left
                          · simp only [Act.put, List.setIfInBounds_toArray, List.set_cons_zero, List.set_cons_succ, i64_w, i32_w]
                            rfl
                          refine take_ (i := 4) (N := some 76) (v := ?_) (a' := ?_) #[true, true, true, true, true, false, false, false] rfl rfl (take_ofW HT_.out HW_.out (by kernel_rfl)) (fun _ _ _ h => h) (Or.inl ⟨by rfl, ?_⟩) hHeld ?_ ?_
                          rotate_left
                          · rintro w' ⟨s0, s1, s2, s3, s4⟩
                            go_simp
                            with_reducible rfl
                          rotate_left
                          · simp only [Act.put, List.setIfInBounds_toArray, List.set_cons_zero, List.set_cons_succ, i64_w, i32_w]
                            rfl
                          refine one_ (i := 5) (N := some 77) #[true, true, true, true, true, true, false, false] rfl rfl (one_of HT_.out (by kernel_rfl)) (by decide) (fun K hK => ?_)
                          refine value_ (w1 := ?_) (v := ?_) (by rfl) rfl ?_ ?_
                          rotate_left 2
                          · go_simp
                            constructor
                            · rfl
                            · rfl
                          refine hK.out _ _ ⟨(blk_cell (blk_alloc BK130.out _) 0).trans rfl, (World.cell?_alloc_lt _ _ _ (World.block_lt_of_cell? _ _ (hHeld.2.1))).trans (hHeld.2.1), (World.cell?_alloc_lt _ _ _ (World.block_lt_of_cell? _ _ (hHeld.2.2.1))).trans (hHeld.2.2.1), (World.cell?_alloc_lt _ _ _ (World.block_lt_of_cell? _ _ (hHeld.2.2.2.1))).trans (hHeld.2.2.2.1), (World.cell?_alloc_lt _ _ _ (World.block_lt_of_cell? _ _ (hHeld.2.2.2.2))).trans (hHeld.2.2.2.2)⟩ (fun hHeld => ?_)
                          clear hK K
                          refine norm_ (a' := ?_) ?_ ?_
                          rotate_left
                          · show Act.put _ (some 77) _ = _
                            simp only [Act.put, List.setIfInBounds_toArray, List.set_cons_zero, List.set_cons_succ, i64_w, i32_w]
                            rfl
                          refine last_ (i := 6) (N := some 78) #[true, true, true, true, true, true, true, false] rfl rfl (one_of HT_.out (by kernel_rfl)) (by decide) (fun K hK => ?_)
                          refine Kd.N_append_step (Kd.slice 5 (Kd.int .u8)) (w0 := w) w.heap.size (by rfl) (.tmp 72) (.tmp 77) 80 22 (.slice none 0 0) 24 rfl Try.underlying80 info22 rfl (by decide) (by omega) u131000 x131000_1 ((rd_T107 x9_2 0).f2) [.slice A149_2 ((rd_T107 x9_2 0).f2).length c149_2] (fun k_ => (P1_ k_ ∨ w.heap.size ≤ k_) ∧ some k_ ≠ (.slice (some ad149) x9_2.length co89 : Value).ownBlock ∧ k_ ≠ gb129 ∧ k_ ≠ gb130) (fun k_ => ((fun k_ => (P1_ k_ ∨ w.heap.size ≤ k_) ∧ some k_ ≠ (.slice (some ad149) x9_2.length co89 : Value).ownBlock ∧ k_ ≠ gb129 ∧ k_ ≠ gb130)) k_ ∧ some k_ ≠ (u131000 : Value).ownBlock) rfl rfl ?aP (fun _ hk => hk) ?aF ?aO ?aB ?aS ?aL ?_
                          (case aP => exact (Kd.FK_slice_mk (Kd.V_reads' (Kd.V_mono (ok' := (fun k_ => ((fun k_ => (P1_ k_ ∨ w.heap.size ≤ k_) ∧ some k_ ≠ (.slice (some ad149) x9_2.length co89 : Value).ownBlock ∧ k_ ≠ gb129 ∧ k_ ≠ gb130)) k_ ∧ some k_ ≠ (u131000 : Value).ownBlock)) (HL149_2.out) (fun k_ hk => ⟨⟨hk.1.1, ⟨hk.2, ⟨hk.1.2.2.1, hk.1.2.2.2⟩⟩⟩, hk.1.2.1⟩))).2.1 (Kd.V_F (Kd.V_mono (ok' := (fun k_ => ((fun k_ => (P1_ k_ ∨ w.heap.size ≤ k_) ∧ some k_ ≠ (.slice (some ad149) x9_2.length co89 : Value).ownBlock ∧ k_ ≠ gb129 ∧ k_ ≠ gb130)) k_ ∧ some k_ ≠ (u131000 : Value).ownBlock)) (HL149_2.out) (fun k_ hk => ⟨⟨hk.1.1, ⟨hk.2, ⟨hk.1.2.2.1, hk.1.2.2.2⟩⟩⟩, hk.1.2.1⟩)))))
                          (case aB => exact (by repeat (first | (with_reducible first | exact HB.out | apply below_alloc | apply pw_below_drewN | apply below_drew1 | refine below_set ?_ GE129.out | refine below_set ?_ GE130.out) | exact HB.out)))
                          (case aF => exact (fun k_ hk => ⟨(.inr (Nat.le_trans (below_size (by repeat (first | (with_reducible first | exact HB.out | apply below_alloc | apply pw_below_drewN | apply below_drew1 | refine below_set ?_ GE129.out | refine below_set ?_ GE130.out) | exact HB.out))) hk)), Kd.fresh' (Kd.N_lt (by (with_reducible repeat (first | apply Kd.N_alloc | apply Kd.N_drewN | apply Kd.N_drew)); exact HO_9.out)) k_ hk, Kd.freshB (g := gb129) (o := .cells #[.int .i64 a0_0, .int .i64 a0_1, .int .i64 a0_2] 29 (0, 0)) (by (with_reducible repeat (first | refine blk_drewN ?_ _ | refine blk_drew ?_ | refine blk_alloc ?_ _)); exact BK129.out) k_ hk, Kd.freshB (g := gb130) (o := .cells #[u131000] 80 (0, 0)) (by (with_reducible repeat (first | refine blk_drewN ?_ _ | refine blk_drew ?_ | refine blk_alloc ?_ _)); exact BK130.out) k_ hk⟩))
                          (case aO => exact (by (with_reducible repeat (first | apply Kd.N_alloc | apply Kd.N_drewN | apply Kd.N_drew)); exact HO_131000.out))
                          (case aS => exact (below_size (by repeat (first | (with_reducible first | exact HB.out | apply below_alloc | apply pw_below_drewN | apply below_drew1 | refine below_set ?_ GE129.out | refine below_set ?_ GE130.out) | exact HB.out))))
                          (case aL => have := LMc88.out; omega)
                          intro v151 w91 ho hb hg hat
                          rw [← Ny150.out] at ho
                          have n0_ := Aside0.mk (Kd.N_afterv (ok := (fun k_ => (P1_ k_ ∨ w.heap.size ≤ k_) ∧ k_ ≠ gb129 ∧ k_ ≠ gb130)) (by (with_reducible repeat (first | apply Kd.N_alloc | apply Kd.N_drewN | apply Kd.N_drew)); exact Kd.N_mono HO_9.out (fun _ hk => ⟨⟨hk.1, ⟨hk.2.2.1, hk.2.2.2⟩⟩, hk.2.1⟩)) hg hat)
                          have n1_ := Aside0.mk (Kd.V_afterv (ok := (fun k_ => (P1_ k_ ∨ w.heap.size ≤ k_) ∧ some k_ ≠ (.slice (some ad149) x9_2.length co89 : Value).ownBlock ∧ k_ ≠ gb129 ∧ k_ ≠ gb130)) (by (with_reducible repeat (first | apply Kd.V_alloc | apply Kd.V_drewN | apply Kd.V_drew)); exact Kd.V_mono HO_15.out (fun _ hk => ⟨⟨hk.1, ⟨hk.2.1, ⟨hk.2.2.2.1, hk.2.2.2.2⟩⟩⟩, hk.2.2.1⟩)) hg hat)
                          have n2_ := Aside0.mk (Kd.V_afterv (ok := (fun k_ => (P1_ k_ ∨ w.heap.size ≤ k_) ∧ some k_ ≠ (.slice (some ad149) x9_2.length co89 : Value).ownBlock ∧ k_ ≠ gb129 ∧ k_ ≠ gb130)) (by (with_reducible repeat (first | apply Kd.V_alloc | apply Kd.V_drewN | apply Kd.V_drew)); exact Kd.V_mono HO_21.out (fun _ hk => ⟨⟨hk.1, ⟨hk.2.1, ⟨hk.2.2.2.1, hk.2.2.2.2⟩⟩⟩, hk.2.2.1⟩)) hg hat)
                          have n3_ := Aside0.mk (blk_grown (g := gb129) (o := .cells #[.int .i64 a0_0, .int .i64 a0_1, .int .i64 a0_2] 29 (0, 0)) (by (with_reducible repeat (first | refine blk_drewN ?_ _ | refine blk_drew ?_ | refine blk_alloc ?_ _)); exact BK129.out) hg (Kd.N_ne HO_131000.out BK129.out (by decide)))
                          have n4_ := Aside0.mk (blk_grown (g := gb130) (o := .cells #[u131000] 80 (0, 0)) (by (with_reducible repeat (first | refine blk_drewN ?_ _ | refine blk_drew ?_ | refine blk_alloc ?_ _)); exact BK130.out) hg (Kd.N_ne HO_131000.out BK130.out (by decide)))
                          have n5_ := Aside0.mk (Kd.V_afterv (ok := (fun k_ => (P1_ k_ ∨ w.heap.size ≤ k_) ∧ some k_ ≠ (.slice (some ad149) x9_2.length co89 : Value).ownBlock ∧ k_ ≠ gb129 ∧ k_ ≠ gb130)) (by (with_reducible repeat (first | apply Kd.V_alloc | apply Kd.V_drewN | apply Kd.V_drew)); exact Kd.V_mono HL149_2.out (fun _ hk => ⟨⟨hk.1.1, ⟨hk.2, ⟨hk.1.2.2.1, hk.1.2.2.2⟩⟩⟩, hk.1.2.1⟩)) hg hat)
                          have n6_ := Aside0.mk (hb)
                          have n7_ := Aside0.mk (ho)
                          clear HO_9
                          clear HO_15
                          clear HO_21
                          clear BK129
                          clear BK130
                          clear HL149_2
                          clear HB
                          clear HO_131000
                          have HO_9 := n0_
                          have HO_15 := n1_
                          have HO_21 := n2_
                          have BK129 := n3_
                          have BK130 := n4_
                          have HL149_2 := n5_
                          have HB := n6_
                          have HO152 := n7_
                          clear n0_ n1_ n2_ n3_ n4_ n5_ n6_ n7_
                          clear ho hb hg hat
                          obtain ⟨Ao92, co92, eo92⟩ := Kd.N_slice HO152.out
                          (first | subst eo92 | (injection eo92 with f1_ f2_ f3_; have f4_ := f1_.symm; have f5_ := f3_.symm; clear f1_ f2_ f3_; subst f4_; subst f5_))
                          refine hK.out _ _ ?_
                          clear hK K
                          refine norm_ (a' := ?_) ?_ ?_
                          rotate_left
                          · show Act.put _ (some 78) _ = _
                            simp only [Act.put, List.setIfInBounds_toArray, List.set_cons_zero, List.set_cons_succ, i64_w, i32_w]
                            rfl
                          refine last_ (i := 7) (N := none) #[true, true, true, true, true, true, true, true] rfl rfl (one_of HT_.out (by kernel_rfl)) (by decide) (fun K hK => ?_)
                          have hs93 : w91.cell? ⟨gb130, 0, none⟩ = some (u131000) := (blk_cell BK130.out 0).trans rfl
                          have hfs93 := blk_frozen BK130.out 0
                          have hns93_0 := NB129_130.out
                          have hms93_0 := NB130_129.out
                          refine skip_ (w1 := ?_) (by rfl) rfl ?_ ?_
                          rotate_left
                          · go_simp
                            rfl
                          refine hK.out _ _ ?_
                          clear hK K
                          refine done_ (done_of HT_.out (by kernel_rfl)) ?_
                          try go_wp2
                          go_roundg k2
                          case measure => have := HK1.out; have := HK2.out; omega
                          case rel => exact ⟨(false), (wrap64 (x17_1 + 1)), (y150), (.slice Ao92 y150.length co92), (by first | rfl | (simp; done) | (simp [*]; done)), (by first | rfl | (simp; done) | (simp [*]; done)), H', ⟨by have := HK1.out; have := HK2.out; omega⟩, ⟨by (with_reducible repeat (first | apply Kd.V_alloc | apply Kd.V_drewN | apply Kd.V_drew)); exact Kd.V_mono (Kd.V_far (p := ⟨gb130, 0, none⟩) (Kd.V_mono HO_15.out (fun k_ hk => (⟨hk, hk.1.2.2.2⟩ : _ ∧ k_ ≠ gb130))) (fun _ hk => hk.2) (.slice Ao92 y150.length co92)) (fun _ hk => ⟨hk.1.1.1, ⟨hk.1.2, ⟨hk.1.1.2.2.1, hk.1.1.2.2.2⟩⟩⟩)⟩, ⟨by (with_reducible repeat (first | apply Kd.N_alloc | apply Kd.N_drewN | apply Kd.N_drew)); exact Kd.N_mono (Kd.N_far (p := ⟨gb130, 0, none⟩) (Kd.N_mono HO152.out (fun k_ hk => (⟨hk, hk.2.2.2⟩ : _ ∧ k_ ≠ gb130))) (fun _ hk => hk.2) (.slice Ao92 y150.length co92)) (fun _ hk => ⟨hk.1.1, ⟨hk.1.2.2.1, hk.1.2.2.2⟩⟩)⟩, ⟨by (with_reducible repeat (first | refine blk_drewN ?_ _ | refine blk_drew ?_ | refine blk_alloc ?_ _)); refine blk_far ?_ NB129_130.out _; (with_reducible repeat (first | refine blk_drewN ?_ _ | refine blk_drew ?_ | refine blk_alloc ?_ _)); exact BK129.out⟩, ⟨by (with_reducible repeat (first | refine blk_drewN ?_ _ | refine blk_drew ?_ | refine blk_alloc ?_ _)); refine blk_put (cs := #[u131000]) ?_ 0 _ rfl; (with_reducible repeat (first | refine blk_drewN ?_ _ | refine blk_drew ?_ | refine blk_alloc ?_ _)); exact BK130.out⟩, ⟨by repeat (first | (with_reducible first | exact HB.out | apply below_alloc | apply pw_below_drewN | apply below_drew1 | refine below_set ?_ GE129.out | refine below_set ?_ GE130.out) | exact HB.out)⟩⟩
                        · rw [if_neg c88] at H
                          exact absurd H (by simp)
                      · rw [if_neg c87] at H
                        exact absurd H (by simp)
                    · rw [if_neg c86] at H
                      have c86b0 : decide (0 < (x9_2.length : Int)) = false := decide_eq_false c86
                      have c86b1 : decide (0 < x9_2.length) = false := decide_eq_false (by omega)
                      clear c86
                      have H' := Aside0.mk H
                      clear H
                      obtain ⟨Ao94, co94, eo94⟩ := Kd.N_slice HO_9.out
                      subst eo94
                      go_wp2_with (first | (go_at_call 72; go_in) | (go_at_call 87; go_in) | (go_at_call 111; go_in) | ((try simp only [Exit.inBlock, Exit.then]); refine bodyPost_end (results_none rfl _ _ _) rfl ?_; simp only []; go_at_K) | ((try simp only [Exit.inBlock, Exit.then]); refine bodyPost_ret (results_none rfl _ _ _) rfl ?_; simp only []; go_at_K) | go_in)
                      go_roundg k2
                      case measure => have := HK1.out; have := HK2.out; omega
                      case rel => exact ⟨(false), (wrap64 (x17_1 + 1)), (x131000_1), (u131000), (by first | rfl | (simp; done) | (simp [*]; done)), (by first | rfl | (simp; done) | (simp [*]; done)), H', ⟨by have := HK1.out; have := HK2.out; omega⟩, ⟨by (with_reducible repeat (first | apply Kd.V_alloc | apply Kd.V_drewN | apply Kd.V_drew)); exact Kd.V_mono HO_15.out (fun _ hk => ⟨hk.1, ⟨hk.2.2.1, ⟨hk.2.2.2.1, hk.2.2.2.2⟩⟩⟩)⟩, ⟨by (with_reducible repeat (first | apply Kd.N_alloc | apply Kd.N_drewN | apply Kd.N_drew)); exact Kd.N_mono HO_131000.out (fun _ hk => ⟨hk.1, ⟨hk.2.2.1, hk.2.2.2⟩⟩)⟩, ⟨by (with_reducible repeat (first | refine blk_drewN ?_ _ | refine blk_drew ?_ | refine blk_alloc ?_ _)); exact BK129.out⟩, ⟨by (with_reducible repeat (first | refine blk_drewN ?_ _ | refine blk_drew ?_ | refine blk_alloc ?_ _)); exact BK130.out⟩, ⟨by repeat (first | (with_reducible first | exact HB.out | apply below_alloc | apply pw_below_drewN | apply below_drew1 | refine below_set ?_ GE129.out | refine below_set ?_ GE130.out) | exact HB.out)⟩⟩
          · rw [if_neg c7] at H
            exact absurd H (by simp)
        · rw [if_neg c6] at H
          exact absurd H (by simp)
      · rw [if_neg c5] at H
        have c5b0 : decide (x17_1 < (l1.length : Int)) = false := decide_eq_false c5
        clear c5
        by_cases c95 : a0_0 = 3
        · rw [if_pos c95] at H
          have c95b0 : (a0_0 == 3) = true := beq_iff_eq.mpr c95
          have c95b1 : (a0_0 != 3) = false := bne_eq_false_iff_eq.mpr c95
          clear c95
          have H' := Aside0.mk H
          clear H
          have hnb96 := NB129_130.out
          have hnc96 := NB130_129.out
          have hcz97_0 : wr.cell? ⟨gb129, 0, none⟩ = some (.int .i64 a0_0) := (blk_cell BK129.out 0).trans rfl
          have hcz97_1 : wr.cell? ⟨gb129, 1, none⟩ = some (.int .i64 a0_1) := (blk_cell BK129.out 1).trans rfl
          have hcz97_2 : wr.cell? ⟨gb129, 2, none⟩ = some (.int .i64 a0_2) := (blk_cell BK129.out 2).trans rfl
          have hfz97_0 := blk_frozen BK129.out 0
          have hfz97_1 := blk_frozen BK129.out 1
          have hfz97_2 := blk_frozen BK129.out 2
          have hcz98_0 : wr.cell? ⟨gb130, 0, none⟩ = some (u131000) := (blk_cell BK130.out 0).trans rfl
          have hfz98_0 := blk_frozen BK130.out 0
          obtain ⟨Ao99, co99, eo99⟩ := Kd.N_slice HO_131000.out
          subst eo99
          go_wp2_with (first | (go_at_call 72; go_in) | (go_at_call 87; go_in) | (go_at_call 111; go_in) | ((try simp only [Exit.inBlock, Exit.then]); refine bodyPost_end (results_none rfl _ _ _) rfl ?_; simp only []; go_at_K) | ((try simp only [Exit.inBlock, Exit.then]); refine bodyPost_ret (results_none rfl _ _ _) rfl ?_; simp only []; go_at_K) | go_in)
          go_loopg [8] k1 (fun kq v104 w' => ∃ (x104_2 : Int), v104 = .int .i64 x104_2 ∧ Aside0 (bakeref2_Guarded.l2 kq x131000_1 (x131000_1.length : Int) x104_2 x131000_1 = some r) ∧ Aside0 (kq ≤ k1) ∧ Aside0 (Kd.N (Kd.slice 5 (Kd.int .u8)) 22 w' w.heap.size (fun k_ => (P1_ k_ ∨ w.heap.size ≤ k_) ∧ k_ ≠ gb129 ∧ k_ ≠ gb130) (.slice Ao99 x131000_1.length co99) x131000_1) ∧ Aside0 (Kd.N (Kd.slice 5 (Kd.int .u8)) 22 w' w.heap.size (fun k_ => (P1_ k_ ∨ w.heap.size ≤ k_) ∧ k_ ≠ gb129 ∧ k_ ≠ gb130) (.slice Ao99 x131000_1.length co99) x131000_1) ∧ Aside0 (w'.heap[gb129]? = some (.cells #[.int .i64 a0_0, .int .i64 a0_1, .int .i64 a0_2] 29 (0, 0))) ∧ Aside0 (w'.heap[gb130]? = some (.cells #[(.slice Ao99 x131000_1.length co99)] 80 (0, 0))) ∧ Aside0 (Below w.heap.size w w'))
          case atStart => exact ⟨(0), (by first | rfl | (simp; done) | (simp [*]; done)), H', ⟨Nat.le_refl _⟩, ⟨by (with_reducible repeat (first | apply Kd.N_alloc | apply Kd.N_drewN | apply Kd.N_drew)); exact HO_131000.out⟩, ⟨by (with_reducible repeat (first | apply Kd.N_alloc | apply Kd.N_drewN | apply Kd.N_drew)); exact HO_131000.out⟩, ⟨by (with_reducible repeat (first | refine blk_drewN ?_ _ | refine blk_drew ?_ | refine blk_alloc ?_ _)); exact BK129.out⟩, ⟨by (with_reducible repeat (first | refine blk_drewN ?_ _ | refine blk_drew ?_ | refine blk_alloc ?_ _)); exact BK130.out⟩, ⟨by repeat (first | (with_reducible first | exact HB.out | apply below_alloc | apply pw_below_drewN | apply below_drew1 | refine below_set ?_ GE129.out | refine below_set ?_ GE130.out) | exact HB.out)⟩⟩
          case round =>
            clear H'
            try clear c1
            try clear p1
            try clear q1
            try clear hx1
            try clear qi1
            try clear p2
            try clear c5
            try clear c5b0
            try clear c6
            try clear p6
            try clear c7
            try clear c8
            try clear c8b0
            try clear c9
            try clear c10
            try clear c11
            try clear c11b0
            try clear c11b1
            try clear c12
            try clear c13
            try clear p13
            try clear q13
            try clear hx13
            try clear c14
            try clear p14
            try clear q14
            try clear hx14
            try clear qi14
            try clear c57
            try clear c58
            try clear c60
            try clear c62
            try clear c63
            try clear c63b0
            try clear c63b1
            try clear c64
            try clear c64b0
            try clear p64
            try clear c65
            try clear c65b0
            try clear c66
            try clear c66b0
            try clear c66b1
            try clear c67
            try clear c71
            try clear c78
            try clear c78b0
            try clear c79
            try clear c79b0
            try clear c83
            try clear c86
            try clear c86b0
            try clear c86b1
            try clear c87
            try clear c87b0
            try clear c87b1
            try clear c88
            try clear c95
            try clear c95b0
            try clear c95b1
            try clear c96
            try clear hcz59_0
            try clear hcz59_1
            try clear hcz59_2
            try clear hcz59_3
            try clear hcz61_0
            try clear hcz61_1
            try clear hcz61_2
            try clear hcz72_0
            try clear hcz72_1
            try clear hcz72_2
            try clear hcz84_0
            try clear hcz84_1
            try clear hcz84_2
            try clear hcz97_0
            try clear hcz97_1
            try clear hcz97_2
            try clear hcz98_0
            try clear hfz59_0
            try clear hfz59_1
            try clear hfz59_2
            try clear hfz59_3
            try clear hfz61_0
            try clear hfz61_1
            try clear hfz61_2
            try clear hfz72_0
            try clear hfz72_1
            try clear hfz72_2
            try clear hfz84_0
            try clear hfz84_1
            try clear hfz84_2
            try clear hfz97_0
            try clear hfz97_1
            try clear hfz97_2
            try clear hfz98_0
            try clear hx132_0
            try clear hx132_1
            try clear hx132_2
            try clear hx132_3
            try clear hx140_0
            try clear hx141_0
            try clear hx141_1
            try clear hx141_2
            try clear hx141_3
            try clear hx148_0
            try clear hx149_0
            try clear hx149_1
            try clear hx149_2
            try clear hx149_3
            try clear p132
            try clear p140
            try clear p141
            try clear p148
            try clear p149
            try clear q132
            try clear q140
            try clear q141
            try clear q148
            try clear q149
            obtain ⟨x104_2, rfl, HA, HK2, HO_96, HO_131000, BK129, BK130, HB⟩ := hrel
            cases gk with
            | zero => exact absurd HA.out (by simp [bakeref2_Guarded.l2])
            | succ k2 =>
              have H := HA.out
              clear HA
              simp only [bakeref2_Guarded.l2] at H
              by_cases c100 : x104_2 < (x131000_1.length : Int)
              · rw [if_pos c100] at H
                have c100b0 : decide (x104_2 < (x131000_1.length : Int)) = true := decide_eq_true c100
                clear c100
                by_cases c101 : 0 ≤ x104_2
                · rw [if_pos c101] at H
                  have c101b0 : decide (0 ≤ x104_2) = true := decide_eq_true c101
                  clear c101
                  by_cases c102 : x104_2 < (x131000_1.length : Int)
                  · rw [if_pos c102] at H
                    have c102b0 : decide (x104_2 < (x131000_1.length : Int)) = true := decide_eq_true c102
                    clear c102
                    by_cases c103 : 0 < (x131000_1.length : Int)
                    · rw [if_pos c103] at H
                      have c103b0 : decide (0 < (x131000_1.length : Int)) = true := decide_eq_true c103
                      have c103b1 : decide (0 < x131000_1.length) = true := decide_eq_true (by omega)
                      clear c103
                      replace H := Option.bind_eq_some_iff.mp H
                      obtain ⟨t155, A1040, H⟩ := H
                      replace H : (if t155 = true then (bakeref2_Guarded.l2 k2 x131000_1 (x131000_1.length : Int) (wrap64 (x104_2 + 1)) x131000_1) else (some (decide (x104_2 ≥ 0)))) = some r := H
                      have A104 := Aside0.mk A1040
                      clear A1040
                      by_cases c105 : t155 = true
                      · subst c105
                        have H1 : (bakeref2_Guarded.l2 k2 x131000_1 (x131000_1.length : Int) (wrap64 (x104_2 + 1)) x131000_1) = some r := by rw [if_pos rfl] at H; exact H
                        clear H
                        have H := H1
                        clear H1
                        have H' := Aside0.mk H
                        clear H
                        have p153 : 0 ≤ (x104_2 : Int) := of_decide_eq_true (by first | (with_reducible assumption) | assumption)
                        have q153 : x104_2 < (x131000_1.length : Int) := of_decide_eq_true (by first | (with_reducible assumption) | assumption)
                        obtain ⟨ad153, A153_0, c153_0, e153, hx153_0, hl153_0, hi153_0⟩ := at_L2 (Kd.N_reads' HO_96.out).2.2 x104_2 p153 q153
                        cases e153
                        obtain ⟨ce153, hce153, hMe153, hcc153⟩ := Kd.N_get HO_96.out [] x104_2 p153 (by first | exact q153 | exact of_decide_eq_true (by first | (with_reducible assumption) | assumption) | (have e_ := (Kd.N_reads' HO_96.out).1; omega))
                        obtain ⟨ua153_0, uc153_0, rfl, ul153_0, ge153_0⟩ := Kd.FK_slice_open hMe153
                        have hv153_0 := hcc153 0 _ rfl
                        rw [Nat.add_zero, show ((Kd.slice 5 (Kd.int .u8))).sz = 1 from rfl, Nat.mul_one] at hv153_0
                        replace hv153_0 := Option.some.inj (hv153_0.symm.trans hx153_0)
                        injection hv153_0 with hva_ hvn_ hvc_
                        rw [hva_] at ge153_0
                        rw [hvc_] at ul153_0
                        have HL153_0 := Aside0.mk (show Kd.V (Kd.int .u8) 5 _ w.heap.size _ _ (rd_L2 x131000_1 x104_2) from Kd.V_mk ul153_0 ge153_0)
                        clear hva_ hvn_ hvc_ ge153_0 ul153_0
                        clear hcc153 hce153
                        have HR153_0 := Aside0.mk hi153_0
                        have HC153_0 := Aside0.mk hl153_0
                        clear hi153_0 hl153_0
                        replace p153 := eq_true p153
                        replace q153 := eq_true q153
                        have hnb106 := NB130_129.out
                        have hnc106 := NB129_130.out
                        have hcz107_0 : wr.cell? ⟨gb130, 0, none⟩ = some (.slice (some ad153) x131000_1.length co99) := (blk_cell BK130.out 0).trans rfl
                        have hfz107_0 := blk_frozen BK130.out 0
                        have p154 : 0 ≤ (0 : Int) := (by omega)
                        have q154 : 0 < (x131000_1.length : Int) := of_decide_eq_true (by first | (with_reducible assumption) | assumption)
                        obtain ⟨ad154, A154_0, c154_0, e154, hx154_0, hl154_0, hi154_0⟩ := at_L2 (Kd.N_reads' HO_131000.out).2.2 0 p154 q154
                        obtain rfl : ad153 = ad154 := (by injection e154)
                        obtain ⟨ce154, hce154, hMe154, hcc154⟩ := Kd.N_get HO_131000.out [] 0 p154 (by first | exact q154 | exact of_decide_eq_true (by first | (with_reducible assumption) | assumption) | (have e_ := (Kd.N_reads' HO_131000.out).1; omega))
                        obtain ⟨ua154_0, uc154_0, rfl, ul154_0, ge154_0⟩ := Kd.FK_slice_open hMe154
                        have hv154_0 := hcc154 0 _ rfl
                        rw [Nat.add_zero, show ((Kd.slice 5 (Kd.int .u8))).sz = 1 from rfl, Nat.mul_one] at hv154_0
                        replace hv154_0 := Option.some.inj (hv154_0.symm.trans hx154_0)
                        injection hv154_0 with hva_ hvn_ hvc_
                        rw [hva_] at ge154_0
                        rw [hvc_] at ul154_0
                        have HL154_0 := Aside0.mk (show Kd.V (Kd.int .u8) 5 _ w.heap.size _ _ (rd_L2 x131000_1 0) from Kd.V_mk ul154_0 ge154_0)
                        clear hva_ hvn_ hvc_ ge154_0 ul154_0
                        clear hcc154 hce154
                        have qi154 : (0 < x131000_1.length) = True := eq_true (by omega)
                        (try rw [show ((0 : Int)).toNat = 0 from rfl] at hx154_0)
                        (try rw [Addr.add_zero'] at hx154_0)
                        have HR154_0 := Aside0.mk hi154_0
                        have HC154_0 := Aside0.mk hl154_0
                        clear hi154_0 hl154_0
                        replace p154 := eq_true p154
                        replace q154 := eq_true q154
                        go_wp2_with (first | ((with_reducible refine gate_callee (f := 22) rfl ?_); refine goesL_ (some 8) rfl rfl Try.func22 (by kernel_rfl) rfl #[.slice A153_0 (rd_L2 x131000_1 x104_2).length c153_0, .slice A154_0 (rd_L2 x131000_1 0).length c154_0] rfl (by (try simp only [List.map_toArray, List.map_cons, List.map_nil]); first | done | rfl | (simp only [List.length_drop, List.length_take]; rfl)) ?_; (with_reducible refine (slices_Equal_byte_byte.calls k2 _ _ (rd_L2 x131000_1 x104_2) _ _ (rd_L2 x131000_1 0) true _ ?side1 ?side2 ?side3 ?side4 A104.out).mono ?_); (case side1 => repeat (first | exact (by repeat (first | (with_reducible exact HR153_0.out) | (with_reducible refine Kd.C_alloc ?_ _) | (with_reducible refine Kd.C_drewN ?_ _) | (with_reducible refine Kd.C_drew ?_) | exact HR153_0.out)) | (with_reducible refine Kd.C_alloc ?_ _) | (with_reducible refine Kd.C_drewN ?_ _) | (with_reducible refine Kd.C_drew ?_))); (case side2 => exact HC153_0.out); (case side3 => repeat (first | exact (by repeat (first | (with_reducible exact HR154_0.out) | (with_reducible refine Kd.C_alloc ?_ _) | (with_reducible refine Kd.C_drewN ?_ _) | (with_reducible refine Kd.C_drew ?_) | exact HR154_0.out)) | (with_reducible refine Kd.C_alloc ?_ _) | (with_reducible refine Kd.C_drewN ?_ _) | (with_reducible refine Kd.C_drew ?_))); (case side4 => exact HC154_0.out); rintro e w' ⟨rfl, ⟨nd, rfl⟩⟩; refine ⟨_, rfl, ?_⟩) | (go_at_call 72; go_in) | (go_at_call 87; go_in) | (go_at_call 111; go_in) | ((try simp only [Exit.inBlock, Exit.then]); refine bodyPost_end (results_none rfl _ _ _) rfl ?_; simp only []; go_at_K) | ((try simp only [Exit.inBlock, Exit.then]); refine bodyPost_ret (results_none rfl _ _ _) rfl ?_; simp only []; go_at_K))
                        go_roundg k2
                        case measure => have := HK1.out; have := HK2.out; omega
                        case rel => exact ⟨(wrap64 (x104_2 + 1)), (by first | rfl | (simp; done) | (simp [*]; done)), H', ⟨by have := HK1.out; have := HK2.out; omega⟩, ⟨by (with_reducible repeat (first | apply Kd.N_alloc | apply Kd.N_drewN | apply Kd.N_drew)); exact HO_96.out⟩, ⟨by (with_reducible repeat (first | apply Kd.N_alloc | apply Kd.N_drewN | apply Kd.N_drew)); exact HO_131000.out⟩, ⟨by (with_reducible repeat (first | refine blk_drewN ?_ _ | refine blk_drew ?_ | refine blk_alloc ?_ _)); exact BK129.out⟩, ⟨by (with_reducible repeat (first | refine blk_drewN ?_ _ | refine blk_drew ?_ | refine blk_alloc ?_ _)); exact BK130.out⟩, ⟨by repeat (first | (with_reducible first | exact HB.out | apply below_alloc | apply pw_below_drewN | apply below_drew1 | refine below_set ?_ GE129.out | refine below_set ?_ GE130.out) | exact HB.out)⟩⟩
                      · replace c105 := Bool.eq_false_iff.mpr c105
                        subst c105
                        have H1 : (some (decide (x104_2 ≥ 0))) = some r := by rw [if_neg (show ¬ (false = true) by decide)] at H; exact H
                        clear H
                        have H := H1
                        clear H1
                        obtain rfl := Option.some.inj H
                        have p153 : 0 ≤ (x104_2 : Int) := of_decide_eq_true (by first | (with_reducible assumption) | assumption)
                        have q153 : x104_2 < (x131000_1.length : Int) := of_decide_eq_true (by first | (with_reducible assumption) | assumption)
                        obtain ⟨ad153, A153_0, c153_0, e153, hx153_0, hl153_0, hi153_0⟩ := at_L2 (Kd.N_reads' HO_96.out).2.2 x104_2 p153 q153
                        cases e153
                        obtain ⟨ce153, hce153, hMe153, hcc153⟩ := Kd.N_get HO_96.out [] x104_2 p153 (by first | exact q153 | exact of_decide_eq_true (by first | (with_reducible assumption) | assumption) | (have e_ := (Kd.N_reads' HO_96.out).1; omega))
                        obtain ⟨ua153_0, uc153_0, rfl, ul153_0, ge153_0⟩ := Kd.FK_slice_open hMe153
                        have hv153_0 := hcc153 0 _ rfl
                        rw [Nat.add_zero, show ((Kd.slice 5 (Kd.int .u8))).sz = 1 from rfl, Nat.mul_one] at hv153_0
                        replace hv153_0 := Option.some.inj (hv153_0.symm.trans hx153_0)
                        injection hv153_0 with hva_ hvn_ hvc_
                        rw [hva_] at ge153_0
                        rw [hvc_] at ul153_0
                        have HL153_0 := Aside0.mk (show Kd.V (Kd.int .u8) 5 _ w.heap.size _ _ (rd_L2 x131000_1 x104_2) from Kd.V_mk ul153_0 ge153_0)
                        clear hva_ hvn_ hvc_ ge153_0 ul153_0
                        clear hcc153 hce153
                        have HR153_0 := Aside0.mk hi153_0
                        have HC153_0 := Aside0.mk hl153_0
                        clear hi153_0 hl153_0
                        replace p153 := eq_true p153
                        replace q153 := eq_true q153
                        have hnb108 := NB130_129.out
                        have hnc108 := NB129_130.out
                        have hcz109_0 : wr.cell? ⟨gb130, 0, none⟩ = some (.slice (some ad153) x131000_1.length co99) := (blk_cell BK130.out 0).trans rfl
                        have hfz109_0 := blk_frozen BK130.out 0
                        have p154 : 0 ≤ (0 : Int) := (by omega)
                        have q154 : 0 < (x131000_1.length : Int) := of_decide_eq_true (by first | (with_reducible assumption) | assumption)
                        obtain ⟨ad154, A154_0, c154_0, e154, hx154_0, hl154_0, hi154_0⟩ := at_L2 (Kd.N_reads' HO_131000.out).2.2 0 p154 q154
                        obtain rfl : ad153 = ad154 := (by injection e154)
                        obtain ⟨ce154, hce154, hMe154, hcc154⟩ := Kd.N_get HO_131000.out [] 0 p154 (by first | exact q154 | exact of_decide_eq_true (by first | (with_reducible assumption) | assumption) | (have e_ := (Kd.N_reads' HO_131000.out).1; omega))
                        obtain ⟨ua154_0, uc154_0, rfl, ul154_0, ge154_0⟩ := Kd.FK_slice_open hMe154
                        have hv154_0 := hcc154 0 _ rfl
                        rw [Nat.add_zero, show ((Kd.slice 5 (Kd.int .u8))).sz = 1 from rfl, Nat.mul_one] at hv154_0
                        replace hv154_0 := Option.some.inj (hv154_0.symm.trans hx154_0)
                        injection hv154_0 with hva_ hvn_ hvc_
                        rw [hva_] at ge154_0
                        rw [hvc_] at ul154_0
                        have HL154_0 := Aside0.mk (show Kd.V (Kd.int .u8) 5 _ w.heap.size _ _ (rd_L2 x131000_1 0) from Kd.V_mk ul154_0 ge154_0)
                        clear hva_ hvn_ hvc_ ge154_0 ul154_0
                        clear hcc154 hce154
                        have qi154 : (0 < x131000_1.length) = True := eq_true (by omega)
                        (try rw [show ((0 : Int)).toNat = 0 from rfl] at hx154_0)
                        (try rw [Addr.add_zero'] at hx154_0)
                        have HR154_0 := Aside0.mk hi154_0
                        have HC154_0 := Aside0.mk hl154_0
                        clear hi154_0 hl154_0
                        replace p154 := eq_true p154
                        replace q154 := eq_true q154
                        go_wp2_with (first | ((with_reducible refine gate_callee (f := 22) rfl ?_); refine goesL_ (some 8) rfl rfl Try.func22 (by kernel_rfl) rfl #[.slice A153_0 (rd_L2 x131000_1 x104_2).length c153_0, .slice A154_0 (rd_L2 x131000_1 0).length c154_0] rfl (by (try simp only [List.map_toArray, List.map_cons, List.map_nil]); first | done | rfl | (simp only [List.length_drop, List.length_take]; rfl)) ?_; (with_reducible refine (slices_Equal_byte_byte.calls k2 _ _ (rd_L2 x131000_1 x104_2) _ _ (rd_L2 x131000_1 0) false _ ?side1 ?side2 ?side3 ?side4 A104.out).mono ?_); (case side1 => repeat (first | exact (by repeat (first | (with_reducible exact HR153_0.out) | (with_reducible refine Kd.C_alloc ?_ _) | (with_reducible refine Kd.C_drewN ?_ _) | (with_reducible refine Kd.C_drew ?_) | exact HR153_0.out)) | (with_reducible refine Kd.C_alloc ?_ _) | (with_reducible refine Kd.C_drewN ?_ _) | (with_reducible refine Kd.C_drew ?_))); (case side2 => exact HC153_0.out); (case side3 => repeat (first | exact (by repeat (first | (with_reducible exact HR154_0.out) | (with_reducible refine Kd.C_alloc ?_ _) | (with_reducible refine Kd.C_drewN ?_ _) | (with_reducible refine Kd.C_drew ?_) | exact HR154_0.out)) | (with_reducible refine Kd.C_alloc ?_ _) | (with_reducible refine Kd.C_drewN ?_ _) | (with_reducible refine Kd.C_drew ?_))); (case side4 => exact HC154_0.out); rintro e w' ⟨rfl, ⟨nd, rfl⟩⟩; refine ⟨_, rfl, ?_⟩) | (go_at_call 72; go_in) | (go_at_call 87; go_in) | (go_at_call 111; go_in) | ((try simp only [Exit.inBlock, Exit.then]); refine bodyPost_end (results_none rfl _ _ _) rfl ?_; simp only []; go_at_K) | ((try simp only [Exit.inBlock, Exit.then]); refine bodyPost_ret (results_none rfl _ _ _) rfl ?_; simp only []; go_at_K))
                        go_ret
                        exact ⟨by first | rfl | (simp [errW_none, errW_some] <;> rfl) | (simp [*, errW_none, errW_some] <;> rfl), by repeat (first | (with_reducible first | exact HB.out | apply below_alloc | apply pw_below_drewN | apply below_drew1 | refine below_set ?_ GE129.out | refine below_set ?_ GE130.out) | exact HB.out)⟩
                    · rw [if_neg c103] at H
                      exact absurd H (by simp)
                  · rw [if_neg c102] at H
                    exact absurd H (by simp)
                · rw [if_neg c101] at H
                  exact absurd H (by simp)
              · rw [if_neg c100] at H
                have c100b0 : decide (x104_2 < (x131000_1.length : Int)) = false := decide_eq_false c100
                clear c100
                obtain rfl := Option.some.inj H
                go_wp2_with (first | (go_at_call 72; go_in) | (go_at_call 87; go_in) | (go_at_call 111; go_in) | ((try simp only [Exit.inBlock, Exit.then]); refine bodyPost_end (results_none rfl _ _ _) rfl ?_; simp only []; go_at_K) | ((try simp only [Exit.inBlock, Exit.then]); refine bodyPost_ret (results_none rfl _ _ _) rfl ?_; simp only []; go_at_K) | go_in)
                go_ret
                exact ⟨by first | rfl | (simp [errW_none, errW_some] <;> rfl) | (simp [*, errW_none, errW_some] <;> rfl), by repeat (first | (with_reducible first | exact HB.out | apply below_alloc | apply pw_below_drewN | apply below_drew1 | refine below_set ?_ GE129.out | refine below_set ?_ GE130.out) | exact HB.out)⟩
        · rw [if_neg c95] at H
          have c95b0 : (a0_0 == 3) = false := beq_eq_false_iff_ne.mpr c95
          have c95b1 : (a0_0 != 3) = true := bne_iff_ne.mpr c95
          obtain rfl := Option.some.inj H
          have hnb110 := NB129_130.out
          have hnc110 := NB130_129.out
          have hcz111_0 : wr.cell? ⟨gb129, 0, none⟩ = some (.int .i64 a0_0) := (blk_cell BK129.out 0).trans rfl
          have hcz111_1 : wr.cell? ⟨gb129, 1, none⟩ = some (.int .i64 a0_1) := (blk_cell BK129.out 1).trans rfl
          have hcz111_2 : wr.cell? ⟨gb129, 2, none⟩ = some (.int .i64 a0_2) := (blk_cell BK129.out 2).trans rfl
          have hfz111_0 := blk_frozen BK129.out 0
          have hfz111_1 := blk_frozen BK129.out 1
          have hfz111_2 := blk_frozen BK129.out 2
          go_wp2_with (first | (go_at_call 72; go_in) | (go_at_call 87; go_in) | (go_at_call 111; go_in) | ((try simp only [Exit.inBlock, Exit.then]); refine bodyPost_end (results_none rfl _ _ _) rfl ?_; simp only []; go_at_K) | ((try simp only [Exit.inBlock, Exit.then]); refine bodyPost_ret (results_none rfl _ _ _) rfl ?_; simp only []; go_at_K) | go_in)
          go_ret
          exact ⟨by first | rfl | (simp [errW_none, errW_some] <;> rfl) | (simp [*, errW_none, errW_some] <;> rfl), by repeat (first | (with_reducible first | exact HB.out | apply below_alloc | apply pw_below_drewN | apply below_drew1 | refine below_set ?_ GE129.out | refine below_set ?_ GE130.out) | exact HB.out)⟩

end Go.Proofs.Ytgiodeiibmbhhaa.PWeakShows
