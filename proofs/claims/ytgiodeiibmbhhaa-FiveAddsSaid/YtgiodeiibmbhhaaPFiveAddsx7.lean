-- Written by this session's own program (wip/mp, over the kit's print) for this claim; Lean checks it.
import Derived.Test.YtgiodeiibmbhhaaPFiveAddsx0
import Derived.Test.YtgiodeiibmbhhaaPFiveAddsx4
import Derived.Test.YtgiodeiibmbhhaaPFiveAddsx6
namespace Go.Proofs.Ytgiodeiibmbhhaa.PFiveAdds
open Go.RowKit Go.Proofs.YtgiodeiibmbhhaaW.PrintWords Go.Proofs.YtgiodeiibmbhhaaW.PrintLast Go.Proofs.YtgiodeiibmbhhaaW.PrintMore
attribute [local go_sem] max2_int min2_int max_two min_two max_three min_three max_four min_four   -- for this text's walks alone
set_option linter.unusedVariables false
set_option linter.unusedSimpArgs false

/-! ### bakeref2_split: function 95 -/
def bakeref2_split.f (k : Nat) (a0_0 : Int) (a0_1 : Int) (a0_2 : Int) (a0_3 : Int) (a0_4 : Int) : Option (Bool × List Int × Int) := if ((wrap64 ((wrap64 (256 * (wrap64 ((wrap64 (256 * (wrap64 ((wrap64 (256 * (wrap64 (wrap64 (a0_1))))) + (wrap64 (a0_2)))))) + (wrap64 (a0_3)))))) + (wrap64 (a0_4)))) ≥ 2147483648) then ((bakeref2_natOf.f k (IntKind.u64.wrap (wrap64 ((wrap64 (256 * (wrap64 ((wrap64 (256 * (wrap64 ((wrap64 (256 * (wrap64 (wrap64 (a0_1))))) + (wrap64 (a0_2)))))) + (wrap64 (a0_3)))))) + (wrap64 (a0_4)))))).bind fun t240 => (some (decide ((wrap64 ((wrap64 (256 * (wrap64 ((wrap64 (256 * (wrap64 ((wrap64 (256 * (wrap64 (wrap64 (a0_1))))) + (wrap64 (a0_2)))))) + (wrap64 (a0_3)))))) + (wrap64 (a0_4)))) ≥ 2147483648), t240, wrap64 ((wrap64 (a0_0)) - 160)))) else ((bakeref2_natOf.f k (IntKind.u64.wrap (wrap64 ((wrap64 ((wrap64 (256 * (wrap64 ((wrap64 (256 * (wrap64 ((wrap64 (256 * (wrap64 (wrap64 (a0_1))))) + (wrap64 (a0_2)))))) + (wrap64 (a0_3)))))) + (wrap64 (a0_4)))) + 2147483648)))).bind fun t243 => (some (decide ((wrap64 ((wrap64 (256 * (wrap64 ((wrap64 (256 * (wrap64 ((wrap64 (256 * (wrap64 (wrap64 (a0_1))))) + (wrap64 (a0_2)))))) + (wrap64 (a0_3)))))) + (wrap64 (a0_4)))) ≥ 2147483648), t243, wrap64 ((wrap64 (a0_0)) - 160))))
theorem bakeref2_split.mono : ∀ a0 a1 a2 a3 a4 k, LeO (bakeref2_split.f k a0 a1 a2 a3 a4) (bakeref2_split.f (k + 1) a0 a1 a2 a3 a4) := by
  intro a0 a1 a2 a3 a4 k
  unfold bakeref2_split.f
  repeat' first
      | (with_reducible exact bakeref2_natOf.mono _ _)
      | (with_reducible exact LeO.refl _)
      | (with_reducible exact LeO.none _)
      | (with_reducible refine LeO.ite ?_ ?_)
      | (with_reducible refine LeO.bind ?_ (fun _ => ?_))
      | exact bakeref2_natOf.mono _ _
      | exact LeO.none _
      | refine LeO.ite ?_ ?_
      | refine LeO.bind ?_ (fun _ => ?_)
def bakeref2_split.T10 : Bool × List (List Nat × List Nat) := (true, [([], []), ([], []), ([1], [1]), ([2], [2]), ([], []), ([4], [4]), ([5], [5]), ([6], [6]), ([0, 3, 0], [0]), ([3, 8, 0, 1, 2, 3, 8], [3]), ([7, 9, 0, 1, 2, 3, 4, 5, 6, 7, 8, 9], [7])])
def bakeref2_split.B10 : List Nat := [0, 0, 2, 6, 0, 16, 48, 112, 15, 271, 1023]
theorem bakeref2_split.tab10 : rtab .any (opsOf Try.f95 10) = bakeref2_split.T10 := by kernel_rfl
theorem bakeref2_split.bits10 : waitsOk bakeref2_split.T10.2 bakeref2_split.B10 = true := by kernel_rfl
set_option maxHeartbeats 8000000 in
set_option maxRecDepth 100000 in
theorem bakeref2_split.calls (k : Nat) (a0_0 : Int) (a0_1 : Int) (a0_2 : Int) (a0_3 : Int) (a0_4 : Int) (r1 : Bool) (r2 : List Int) (r3 : Int) (w : World) (h : bakeref2_split.f k a0_0 a0_1 a0_2 a0_3 a0_4 = some (r1, r2, r3)) :
    Calls Try.prog 95 #[.agg #[.int .u8 a0_0, .int .u8 a0_1, .int .u8 a0_2, .int .u8 a0_3, .int .u8 a0_4]] w fun e w' => ∃ v1_ : Value, e = .returned (.tuple #[.bool r1, v1_, .int .i64 r3]) ∧ Kd.R (Kd.int .i64) 3 w' w.heap.size (fun _ => True) v1_ r2 ∧ Below w.heap.size w w' := by
  have hu57 := Try.underlying57
  have HB := Aside0.mk (Below.refl w.heap.size w)
  have H : (if ((wrap64 ((wrap64 (256 * (wrap64 ((wrap64 (256 * (wrap64 ((wrap64 (256 * (wrap64 (wrap64 (a0_1))))) + (wrap64 (a0_2)))))) + (wrap64 (a0_3)))))) + (wrap64 (a0_4)))) ≥ 2147483648) then ((bakeref2_natOf.f k (IntKind.u64.wrap (wrap64 ((wrap64 (256 * (wrap64 ((wrap64 (256 * (wrap64 ((wrap64 (256 * (wrap64 (wrap64 (a0_1))))) + (wrap64 (a0_2)))))) + (wrap64 (a0_3)))))) + (wrap64 (a0_4)))))).bind fun t240 => (some (decide ((wrap64 ((wrap64 (256 * (wrap64 ((wrap64 (256 * (wrap64 ((wrap64 (256 * (wrap64 (wrap64 (a0_1))))) + (wrap64 (a0_2)))))) + (wrap64 (a0_3)))))) + (wrap64 (a0_4)))) ≥ 2147483648), t240, wrap64 ((wrap64 (a0_0)) - 160)))) else ((bakeref2_natOf.f k (IntKind.u64.wrap (wrap64 ((wrap64 ((wrap64 (256 * (wrap64 ((wrap64 (256 * (wrap64 ((wrap64 (256 * (wrap64 (wrap64 (a0_1))))) + (wrap64 (a0_2)))))) + (wrap64 (a0_3)))))) + (wrap64 (a0_4)))) + 2147483648)))).bind fun t243 => (some (decide ((wrap64 ((wrap64 (256 * (wrap64 ((wrap64 (256 * (wrap64 ((wrap64 (256 * (wrap64 (wrap64 (a0_1))))) + (wrap64 (a0_2)))))) + (wrap64 (a0_3)))))) + (wrap64 (a0_4)))) ≥ 2147483648), t243, wrap64 ((wrap64 (a0_0)) - 160))))) = some (r1, r2, r3) := h
  clear h
  by_cases c2 : ((wrap64 ((wrap64 (256 * (wrap64 ((wrap64 (256 * (wrap64 ((wrap64 (256 * (wrap64 (wrap64 (a0_1))))) + (wrap64 (a0_2)))))) + (wrap64 (a0_3)))))) + (wrap64 (a0_4)))) ≥ 2147483648)
  · rw [if_pos c2] at H
    have c2b0 : decide (2147483648 ≤ (wrap64 ((wrap64 (256 * (wrap64 ((wrap64 (256 * (wrap64 ((wrap64 (256 * (wrap64 (wrap64 (a0_1))))) + (wrap64 (a0_2)))))) + (wrap64 (a0_3)))))) + (wrap64 (a0_4))))) = true := decide_eq_true c2
    clear c2
    replace H := Option.bind_eq_some_iff.mp H
    obtain ⟨t240, A30, H⟩ := H
    replace H : (some (decide ((wrap64 ((wrap64 (256 * (wrap64 ((wrap64 (256 * (wrap64 ((wrap64 (256 * (wrap64 (wrap64 (a0_1))))) + (wrap64 (a0_2)))))) + (wrap64 (a0_3)))))) + (wrap64 (a0_4)))) ≥ 2147483648), t240, wrap64 ((wrap64 (a0_0)) - 160))) = some (r1, r2, r3) := H
    have A3 := Aside0.mk A30
    clear A30
    simp only [Option.some.injEq, Prod.mk.injEq] at H
    obtain ⟨rfl, rfl, rfl⟩ := H
    go_enter Try.func95, Try.ntmps95
    go_wp2_with (first | ((with_reducible refine gate_dst (N := 1) rfl ?_); refine box_event ?hg (N := 1) ?hd (cs := #[.int .u8 a0_0, .int .u8 a0_1, .int .u8 a0_2, .int .u8 a0_3, .int .u8 a0_4]) (t := 57) ?hr ?_; (case hd => rfl); (case hg => rfl); (case hr => first | (go_simp; done) | (go_simp; rfl)); intro gb239 hg w4 hbox hb; have n0_ := Aside0.mk (below_step (by repeat (first | (with_reducible first | exact HB.out | apply below_alloc | apply pw_below_drewN | apply below_drew1) | exact HB.out)) hb); have n1_ := Aside0.mk (hbox); have n2_ := Aside0.mk ((by rw [hg]; exact (below_size (by repeat (first | (with_reducible first | exact HB.out | apply below_alloc | apply pw_below_drewN | apply below_drew1) | exact HB.out))) : w.heap.size ≤ gb239)); have n3_ := Aside0.mk ((by rw [hg]; exact (below_size (by repeat (first | (with_reducible first | exact HB.out | apply below_alloc | apply pw_below_drewN | apply below_drew1) | exact HB.out))) : w.heap.size ≤ gb239)); clear HB; have HB := n0_; have BK239 := n1_; have GW239 := n2_; have GE239 := n3_; clear n0_ n1_ n2_ n3_; clear hb hbox hg; have hcz5_0 : w4.cell? ⟨gb239, 0, none⟩ = some (.int .u8 a0_0) := (blk_cell BK239.out 0).trans rfl; have hcz5_1 : w4.cell? ⟨gb239, 1, none⟩ = some (.int .u8 a0_1) := (blk_cell BK239.out 1).trans rfl; have hcz5_2 : w4.cell? ⟨gb239, 2, none⟩ = some (.int .u8 a0_2) := (blk_cell BK239.out 2).trans rfl; have hcz5_3 : w4.cell? ⟨gb239, 3, none⟩ = some (.int .u8 a0_3) := (blk_cell BK239.out 3).trans rfl; have hcz5_4 : w4.cell? ⟨gb239, 4, none⟩ = some (.int .u8 a0_4) := (blk_cell BK239.out 4).trans rfl; have hfz5_0 := blk_frozen BK239.out 0; have hfz5_1 := blk_frozen BK239.out 1; have hfz5_2 := blk_frozen BK239.out 2; have hfz5_3 := blk_frozen BK239.out 3; have hfz5_4 := blk_frozen BK239.out 4))
    have hca0 : w4.cell? ((⟨gb239, 1, none⟩ : Addr).add 0) = some (.int .u8 a0_1) := by rw [show ((⟨gb239, 1, none⟩ : Addr).add 0) = ⟨gb239, 1, none⟩ from rfl]; exact (blk_cell BK239.out 1).trans rfl
    have hca1 : w4.cell? ((⟨gb239, 1, none⟩ : Addr).add 1) = some (.int .u8 a0_2) := by rw [show ((⟨gb239, 1, none⟩ : Addr).add 1) = ⟨gb239, 2, none⟩ from rfl]; exact (blk_cell BK239.out 2).trans rfl
    have hca2 : w4.cell? ((⟨gb239, 1, none⟩ : Addr).add 2) = some (.int .u8 a0_3) := by rw [show ((⟨gb239, 1, none⟩ : Addr).add 2) = ⟨gb239, 3, none⟩ from rfl]; exact (blk_cell BK239.out 3).trans rfl
    have hca3 : w4.cell? ((⟨gb239, 1, none⟩ : Addr).add 3) = some (.int .u8 a0_4) := by rw [show ((⟨gb239, 1, none⟩ : Addr).add 3) = ⟨gb239, 4, none⟩ from rfl]; exact (blk_cell BK239.out 4).trans rfl
    go_loopg [5, 7, 11] 4 (fun kq v5 v7 v11 w' => ∃ (m_ j_ : Int), v5 = .int .i64 m_ ∧ v11 = .int .i64 j_ ∧ ((kq = 4 ∧ j_ = 0 ∧ m_ = 0) ∨ (kq = 3 ∧ j_ = 1 ∧ m_ = (wrap64 (wrap64 (a0_1)))) ∨ (kq = 2 ∧ j_ = 2 ∧ m_ = (wrap64 ((wrap64 (256 * (wrap64 (wrap64 (a0_1))))) + (wrap64 (a0_2))))) ∨ (kq = 1 ∧ j_ = 3 ∧ m_ = (wrap64 ((wrap64 (256 * (wrap64 ((wrap64 (256 * (wrap64 (wrap64 (a0_1))))) + (wrap64 (a0_2)))))) + (wrap64 (a0_3))))) ∨ (kq = 0 ∧ j_ = 4 ∧ m_ = (wrap64 ((wrap64 (256 * (wrap64 ((wrap64 (256 * (wrap64 ((wrap64 (256 * (wrap64 (wrap64 (a0_1))))) + (wrap64 (a0_2)))))) + (wrap64 (a0_3)))))) + (wrap64 (a0_4)))))) ∧ w4 = w')
    case atStart => exact ⟨0, 0, (by first | rfl | (simp; done)), (by first | rfl | (simp; done)), .inl ⟨rfl, rfl, rfl⟩, rfl⟩
    obtain ⟨m_, j_, rfl, rfl, hj_, hw_⟩ := hrel
    subst hw_
    rcases hj_ with ⟨rfl, rfl, rfl⟩ | ⟨rfl, rfl, rfl⟩ | ⟨rfl, rfl, rfl⟩ | ⟨rfl, rfl, rfl⟩ | ⟨rfl, rfl, rfl⟩
    · go_wp2
      go_roundg 3
      case measure => omega
      case rel => exact ⟨_, 1, rfl, (by first | rfl | (simp; done)), .inr (.inl ⟨rfl, rfl, by first | rfl | (simp; done)⟩), rfl⟩
    · go_wp2
      go_roundg 2
      case measure => omega
      case rel => exact ⟨_, 2, rfl, (by first | rfl | (simp; done)), .inr (.inr (.inl ⟨rfl, rfl, by first | rfl | (simp; done)⟩)), rfl⟩
    · go_wp2
      go_roundg 1
      case measure => omega
      case rel => exact ⟨_, 3, rfl, (by first | rfl | (simp; done)), .inr (.inr (.inr (.inl ⟨rfl, rfl, by first | rfl | (simp; done)⟩))), rfl⟩
    · go_wp2
      go_roundg 0
      case measure => omega
      case rel => exact ⟨_, 4, rfl, (by first | rfl | (simp; done)), .inr (.inr (.inr (.inr (⟨rfl, rfl, by first | rfl | (simp; done)⟩)))), rfl⟩
    go_wp2
    have n0_ := Aside0.mk (blk_drew BK239.out)
    have n1_ := Aside0.mk (below_drew1 HB.out)
    clear BK239
    clear HB
    have BK239 := n0_
    have HB := n1_
    clear n0_ n1_
    refine start_ (n := 11) (S := fun w' => w'.cell? ⟨gb239, 0, none⟩ = some (.int .u8 a0_0) ∧ w'.cell? ⟨gb239, 1, none⟩ = some (.int .u8 a0_1) ∧ w'.cell? ⟨gb239, 2, none⟩ = some (.int .u8 a0_2) ∧ w'.cell? ⟨gb239, 3, none⟩ = some (.int .u8 a0_3) ∧ w'.cell? ⟨gb239, 4, none⟩ = some (.int .u8 a0_4)) (ds := []) #[false, false, false, false, false, false, false, false, false, false, false] (by kernel_rfl) rfl rfl ⟨(blk_cell BK239.out 0).trans rfl, (blk_cell BK239.out 1).trans rfl, (blk_cell BK239.out 2).trans rfl, (blk_cell BK239.out 3).trans rfl, (blk_cell BK239.out 4).trans rfl⟩ (fun hHeld => ?_); refine with_tabW bakeref2_split.tab10 bakeref2_split.bits10 (fun HT_ HW_ => ?_)
    generalize w4.drew = w6 at BK239 HB hHeld ⊢
    refine pure_ (i := 0) (N := some 27) (v := ?_) (a' := ?_) #[true, false, false, false, false, false, false, false, false, false, false] rfl rfl (any_of HT_.out (by kernel_rfl)) (fun _ _ _ h => h) (Or.inl ⟨by rfl, ?_⟩) ?_ ?_
    rotate_left
    · intro w'
      go_simp
      with_reducible rfl
    rotate_left
    · simp only [Act.put, List.setIfInBounds_toArray, List.set_cons_zero, List.set_cons_succ, i64_w, i32_w]
      rfl
    refine pure_ (i := 1) (N := some 28) (v := ?_) (a' := ?_) #[true, true, false, false, false, false, false, false, false, false, false] rfl rfl (any_of HT_.out (by kernel_rfl)) (fun _ _ _ h => h) (Or.inl ⟨by rfl, ?_⟩) ?_ ?_
    rotate_left
    · intro w'
      go_simp
      with_reducible rfl
    rotate_left
    · simp only [Act.put, List.setIfInBounds_toArray, List.set_cons_zero, List.set_cons_succ, i64_w, i32_w]
      rfl
    refine pure_ (i := 2) (N := some 29) (v := ?_) (a' := ?_) #[true, true, true, false, false, false, false, false, false, false, false] rfl rfl (any_of HT_.out (by kernel_rfl)) (fun _ _ _ h => h) (Or.inl ⟨by rfl, ?_⟩) ?_ ?_
    rotate_left
    · intro w'
      go_simp
      with_reducible rfl
    rotate_left
    · simp only [Act.put, List.setIfInBounds_toArray, List.set_cons_zero, List.set_cons_succ, i64_w, i32_w]
      rfl
    refine pure_ (i := 4) (N := some 31) (v := ?_) (a' := ?_) #[true, true, true, false, true, false, false, false, false, false, false] rfl rfl (any_of HT_.out (by kernel_rfl)) (fun _ _ _ h => h) (Or.inl ⟨by rfl, ?_⟩) ?_ ?_
    rotate_left
    · intro w'
      go_simp
      with_reducible rfl
    rotate_left
    · simp only [Act.put, List.setIfInBounds_toArray, List.set_cons_zero, List.set_cons_succ, i64_w, i32_w]
      rfl
    refine take_ (i := 5) (N := some 32) (v := ?_) (a' := ?_) #[true, true, true, false, true, true, false, false, false, false, false] rfl rfl (take_ofW HT_.out HW_.out (by kernel_rfl)) (fun _ _ _ h => h) (Or.inl ⟨by rfl, ?_⟩) hHeld ?_ ?_
    rotate_left
    · rintro w' ⟨s0, s1, s2, s3, s4⟩
      go_simp
      with_reducible rfl
    rotate_left
    · simp only [Act.put, List.setIfInBounds_toArray, List.set_cons_zero, List.set_cons_succ, i64_w, i32_w]
      rfl
    refine pure_ (i := 6) (N := some 33) (v := ?_) (a' := ?_) #[true, true, true, false, true, true, true, false, false, false, false] rfl rfl (any_of HT_.out (by kernel_rfl)) (fun _ _ _ h => h) (Or.inl ⟨by rfl, ?_⟩) ?_ ?_
    rotate_left
    · intro w'
      go_simp
      with_reducible rfl
    rotate_left
    · simp only [Act.put, List.setIfInBounds_toArray, List.set_cons_zero, List.set_cons_succ, i64_w, i32_w]
      rfl
    refine pure_ (i := 7) (N := some 34) (v := ?_) (a' := ?_) #[true, true, true, false, true, true, true, true, false, false, false] rfl rfl (any_of HT_.out (by kernel_rfl)) (fun _ _ _ h => h) (Or.inl ⟨by rfl, ?_⟩) ?_ ?_
    rotate_left
    · intro w'
      go_simp
      with_reducible rfl
    rotate_left
    · simp only [Act.put, List.setIfInBounds_toArray, List.set_cons_zero, List.set_cons_succ, i64_w, i32_w]
      rfl
    refine one_ (i := 3) (N := some 30) #[true, true, true, true, true, true, true, true, false, false, false] rfl rfl (one_of HT_.out (by kernel_rfl)) (by decide) (fun K hK => ?_)
    refine goes_ Try.func93 (by kernel_rfl) rfl #[.int .u64 (IntKind.u64.wrap (wrap64 ((wrap64 (256 * (wrap64 ((wrap64 (256 * (wrap64 ((wrap64 (256 * (wrap64 (wrap64 (a0_1))))) + (wrap64 (a0_2)))))) + (wrap64 (a0_3)))))) + (wrap64 (a0_4)))))] (by rfl) rfl rfl (by (try simp only [List.map_toArray, List.map_cons, List.map_nil]); first | done | rfl | (simp only [List.length_drop, List.length_take]; rfl)) ?_
    with_reducible refine (bakeref2_natOf.calls k (IntKind.u64.wrap (wrap64 ((wrap64 (256 * (wrap64 ((wrap64 (256 * (wrap64 ((wrap64 (256 * (wrap64 (wrap64 (a0_1))))) + (wrap64 (a0_2)))))) + (wrap64 (a0_3)))))) + (wrap64 (a0_4))))) t240 _ A3.out).mono ?_
    rintro e w7 ⟨v241, rfl, ho0, hb⟩
    refine ⟨_, rfl, ?_⟩
    have n0_ := Aside0.mk (Kd.R_lower ho0 (below_size (by repeat (first | (with_reducible first | exact HB.out | apply below_alloc | apply pw_below_drewN | apply below_drew1 | refine below_set ?_ GE239.out) | exact HB.out))))
    have n1_ := Aside0.mk (blk_below (g := gb239) (o := .cells #[.int .u8 a0_0, .int .u8 a0_1, .int .u8 a0_2, .int .u8 a0_3, .int .u8 a0_4] 57 (0, 0)) (by (with_reducible repeat (first | refine blk_drewN ?_ _ | refine blk_drew ?_ | refine blk_alloc ?_ _)); exact BK239.out) hb)
    have n2_ := Aside0.mk (below_step (by repeat (first | (with_reducible first | exact HB.out | apply below_alloc | apply pw_below_drewN | apply below_drew1 | refine below_set ?_ GE239.out) | exact HB.out)) hb)
    clear BK239
    clear HB
    have HO242 := n0_
    have BK239 := n1_
    have HB := n2_
    clear n0_ n1_ n2_
    (try clear hb)
    (try clear hb2)
    (try clear hk)
    (try clear hi)
    (try clear ho0)
    refine hK.out _ _ ⟨(blk_cell BK239.out 0).trans rfl, (blk_cell BK239.out 1).trans rfl, (blk_cell BK239.out 2).trans rfl, (blk_cell BK239.out 3).trans rfl, (blk_cell BK239.out 4).trans rfl⟩ (fun hHeld => ?_)
    clear hK K
    refine norm_ (a' := ?_) ?_ ?_
    rotate_left
    · show Act.put _ (some 30) _ = _
      simp only [Act.put, List.setIfInBounds_toArray, List.set_cons_zero, List.set_cons_succ, i64_w, i32_w]
      rfl
    refine pure_ (i := 8) (N := some 2) (v := ?_) (a' := ?_) #[true, true, true, true, true, true, true, true, true, false, false] rfl rfl (any_of HT_.out (by kernel_rfl)) (fun _ _ _ h => h) (Or.inl ⟨by rfl, ?_⟩) ?_ ?_
    rotate_left
    · intro w'
      go_simp
      with_reducible rfl
    rotate_left
    · simp only [Act.put, List.setIfInBounds_toArray, List.set_cons_zero, List.set_cons_succ, i64_w, i32_w]
      rfl
    refine pure_ (i := 9) (N := some 3) (v := ?_) (a' := ?_) #[true, true, true, true, true, true, true, true, true, true, false] rfl rfl (any_of HT_.out (by kernel_rfl)) (fun _ _ _ h => h) (Or.inl ⟨by rfl, ?_⟩) ?_ ?_
    rotate_left
    · intro w'
      go_simp
      with_reducible rfl
    rotate_left
    · simp only [Act.put, List.setIfInBounds_toArray, List.set_cons_zero, List.set_cons_succ, i64_w, i32_w]
      rfl
    refine pure_ (i := 10) (N := some 4) (v := ?_) (a' := ?_) #[true, true, true, true, true, true, true, true, true, true, true] rfl rfl (any_of HT_.out (by kernel_rfl)) (fun _ _ _ h => h) (Or.inl ⟨by rfl, ?_⟩) ?_ ?_
    rotate_left
    · intro w'
      go_simp
      with_reducible rfl
    rotate_left
    · simp only [Act.put, List.setIfInBounds_toArray, List.set_cons_zero, List.set_cons_succ, i64_w, i32_w]
      rfl
    refine done_ (done_of HT_.out (by kernel_rfl)) ?_
    try go_wp2
    go_ret3
    exact ⟨_, by first | rfl | (simp [errW_none, errW_some] <;> rfl) | (simp [*, errW_none, errW_some] <;> rfl), by (with_reducible repeat (first | apply Kd.R_alloc | apply Kd.R_drewN | apply Kd.R_drew)); exact HO242.out, by repeat (first | (with_reducible first | exact HB.out | apply below_alloc | apply pw_below_drewN | apply below_drew1 | refine below_set ?_ GE239.out) | exact HB.out)⟩
  · rw [if_neg c2] at H
    have c2b0 : decide (2147483648 ≤ (wrap64 ((wrap64 (256 * (wrap64 ((wrap64 (256 * (wrap64 ((wrap64 (256 * (wrap64 (wrap64 (a0_1))))) + (wrap64 (a0_2)))))) + (wrap64 (a0_3)))))) + (wrap64 (a0_4))))) = false := decide_eq_false c2
    clear c2
    replace H := Option.bind_eq_some_iff.mp H
    obtain ⟨t243, A80, H⟩ := H
    replace H : (some (decide ((wrap64 ((wrap64 (256 * (wrap64 ((wrap64 (256 * (wrap64 ((wrap64 (256 * (wrap64 (wrap64 (a0_1))))) + (wrap64 (a0_2)))))) + (wrap64 (a0_3)))))) + (wrap64 (a0_4)))) ≥ 2147483648), t243, wrap64 ((wrap64 (a0_0)) - 160))) = some (r1, r2, r3) := H
    have A8 := Aside0.mk A80
    clear A80
    simp only [Option.some.injEq, Prod.mk.injEq] at H
    obtain ⟨rfl, rfl, rfl⟩ := H
    go_enter Try.func95, Try.ntmps95
    go_wp2_with (first | ((with_reducible refine gate_dst (N := 1) rfl ?_); refine box_event ?hg (N := 1) ?hd (cs := #[.int .u8 a0_0, .int .u8 a0_1, .int .u8 a0_2, .int .u8 a0_3, .int .u8 a0_4]) (t := 57) ?hr ?_; (case hd => rfl); (case hg => rfl); (case hr => first | (go_simp; done) | (go_simp; rfl)); intro gb239 hg w9 hbox hb; have n0_ := Aside0.mk (below_step (by repeat (first | (with_reducible first | exact HB.out | apply below_alloc | apply pw_below_drewN | apply below_drew1) | exact HB.out)) hb); have n1_ := Aside0.mk (hbox); have n2_ := Aside0.mk ((by rw [hg]; exact (below_size (by repeat (first | (with_reducible first | exact HB.out | apply below_alloc | apply pw_below_drewN | apply below_drew1) | exact HB.out))) : w.heap.size ≤ gb239)); have n3_ := Aside0.mk ((by rw [hg]; exact (below_size (by repeat (first | (with_reducible first | exact HB.out | apply below_alloc | apply pw_below_drewN | apply below_drew1) | exact HB.out))) : w.heap.size ≤ gb239)); clear HB; have HB := n0_; have BK239 := n1_; have GW239 := n2_; have GE239 := n3_; clear n0_ n1_ n2_ n3_; clear hb hbox hg; have hcz10_0 : w9.cell? ⟨gb239, 0, none⟩ = some (.int .u8 a0_0) := (blk_cell BK239.out 0).trans rfl; have hcz10_1 : w9.cell? ⟨gb239, 1, none⟩ = some (.int .u8 a0_1) := (blk_cell BK239.out 1).trans rfl; have hcz10_2 : w9.cell? ⟨gb239, 2, none⟩ = some (.int .u8 a0_2) := (blk_cell BK239.out 2).trans rfl; have hcz10_3 : w9.cell? ⟨gb239, 3, none⟩ = some (.int .u8 a0_3) := (blk_cell BK239.out 3).trans rfl; have hcz10_4 : w9.cell? ⟨gb239, 4, none⟩ = some (.int .u8 a0_4) := (blk_cell BK239.out 4).trans rfl; have hfz10_0 := blk_frozen BK239.out 0; have hfz10_1 := blk_frozen BK239.out 1; have hfz10_2 := blk_frozen BK239.out 2; have hfz10_3 := blk_frozen BK239.out 3; have hfz10_4 := blk_frozen BK239.out 4))
    have hca0 : w9.cell? ((⟨gb239, 1, none⟩ : Addr).add 0) = some (.int .u8 a0_1) := by rw [show ((⟨gb239, 1, none⟩ : Addr).add 0) = ⟨gb239, 1, none⟩ from rfl]; exact (blk_cell BK239.out 1).trans rfl
    have hca1 : w9.cell? ((⟨gb239, 1, none⟩ : Addr).add 1) = some (.int .u8 a0_2) := by rw [show ((⟨gb239, 1, none⟩ : Addr).add 1) = ⟨gb239, 2, none⟩ from rfl]; exact (blk_cell BK239.out 2).trans rfl
    have hca2 : w9.cell? ((⟨gb239, 1, none⟩ : Addr).add 2) = some (.int .u8 a0_3) := by rw [show ((⟨gb239, 1, none⟩ : Addr).add 2) = ⟨gb239, 3, none⟩ from rfl]; exact (blk_cell BK239.out 3).trans rfl
    have hca3 : w9.cell? ((⟨gb239, 1, none⟩ : Addr).add 3) = some (.int .u8 a0_4) := by rw [show ((⟨gb239, 1, none⟩ : Addr).add 3) = ⟨gb239, 4, none⟩ from rfl]; exact (blk_cell BK239.out 4).trans rfl
    go_loopg [5, 7, 11] 4 (fun kq v5 v7 v11 w' => ∃ (m_ j_ : Int), v5 = .int .i64 m_ ∧ v11 = .int .i64 j_ ∧ ((kq = 4 ∧ j_ = 0 ∧ m_ = 0) ∨ (kq = 3 ∧ j_ = 1 ∧ m_ = (wrap64 (wrap64 (a0_1)))) ∨ (kq = 2 ∧ j_ = 2 ∧ m_ = (wrap64 ((wrap64 (256 * (wrap64 (wrap64 (a0_1))))) + (wrap64 (a0_2))))) ∨ (kq = 1 ∧ j_ = 3 ∧ m_ = (wrap64 ((wrap64 (256 * (wrap64 ((wrap64 (256 * (wrap64 (wrap64 (a0_1))))) + (wrap64 (a0_2)))))) + (wrap64 (a0_3))))) ∨ (kq = 0 ∧ j_ = 4 ∧ m_ = (wrap64 ((wrap64 (256 * (wrap64 ((wrap64 (256 * (wrap64 ((wrap64 (256 * (wrap64 (wrap64 (a0_1))))) + (wrap64 (a0_2)))))) + (wrap64 (a0_3)))))) + (wrap64 (a0_4)))))) ∧ w9 = w')
    case atStart => exact ⟨0, 0, (by first | rfl | (simp; done)), (by first | rfl | (simp; done)), .inl ⟨rfl, rfl, rfl⟩, rfl⟩
    obtain ⟨m_, j_, rfl, rfl, hj_, hw_⟩ := hrel
    subst hw_
    rcases hj_ with ⟨rfl, rfl, rfl⟩ | ⟨rfl, rfl, rfl⟩ | ⟨rfl, rfl, rfl⟩ | ⟨rfl, rfl, rfl⟩ | ⟨rfl, rfl, rfl⟩
    · go_wp2
      go_roundg 3
      case measure => omega
      case rel => exact ⟨_, 1, rfl, (by first | rfl | (simp; done)), .inr (.inl ⟨rfl, rfl, by first | rfl | (simp; done)⟩), rfl⟩
    · go_wp2
      go_roundg 2
      case measure => omega
      case rel => exact ⟨_, 2, rfl, (by first | rfl | (simp; done)), .inr (.inr (.inl ⟨rfl, rfl, by first | rfl | (simp; done)⟩)), rfl⟩
    · go_wp2
      go_roundg 1
      case measure => omega
      case rel => exact ⟨_, 3, rfl, (by first | rfl | (simp; done)), .inr (.inr (.inr (.inl ⟨rfl, rfl, by first | rfl | (simp; done)⟩))), rfl⟩
    · go_wp2
      go_roundg 0
      case measure => omega
      case rel => exact ⟨_, 4, rfl, (by first | rfl | (simp; done)), .inr (.inr (.inr (.inr (⟨rfl, rfl, by first | rfl | (simp; done)⟩)))), rfl⟩
    go_wp2
    have n0_ := Aside0.mk (blk_drew BK239.out)
    have n1_ := Aside0.mk (below_drew1 HB.out)
    clear BK239
    clear HB
    have BK239 := n0_
    have HB := n1_
    clear n0_ n1_
    refine start_ (n := 11) (S := fun w' => w'.cell? ⟨gb239, 0, none⟩ = some (.int .u8 a0_0) ∧ w'.cell? ⟨gb239, 1, none⟩ = some (.int .u8 a0_1) ∧ w'.cell? ⟨gb239, 2, none⟩ = some (.int .u8 a0_2) ∧ w'.cell? ⟨gb239, 3, none⟩ = some (.int .u8 a0_3) ∧ w'.cell? ⟨gb239, 4, none⟩ = some (.int .u8 a0_4)) (ds := []) #[false, false, false, false, false, false, false, false, false, false, false] (by kernel_rfl) rfl rfl ⟨(blk_cell BK239.out 0).trans rfl, (blk_cell BK239.out 1).trans rfl, (blk_cell BK239.out 2).trans rfl, (blk_cell BK239.out 3).trans rfl, (blk_cell BK239.out 4).trans rfl⟩ (fun hHeld => ?_); refine with_tabW bakeref2_split.tab10 bakeref2_split.bits10 (fun HT_ HW_ => ?_)
    generalize w9.drew = w11 at BK239 HB hHeld ⊢
    refine pure_ (i := 0) (N := some 27) (v := ?_) (a' := ?_) #[true, false, false, false, false, false, false, false, false, false, false] rfl rfl (any_of HT_.out (by kernel_rfl)) (fun _ _ _ h => h) (Or.inl ⟨by rfl, ?_⟩) ?_ ?_
    rotate_left
    · intro w'
      go_simp
      with_reducible rfl
    rotate_left
    · simp only [Act.put, List.setIfInBounds_toArray, List.set_cons_zero, List.set_cons_succ, i64_w, i32_w]
      rfl
    refine pure_ (i := 1) (N := some 28) (v := ?_) (a' := ?_) #[true, true, false, false, false, false, false, false, false, false, false] rfl rfl (any_of HT_.out (by kernel_rfl)) (fun _ _ _ h => h) (Or.inl ⟨by rfl, ?_⟩) ?_ ?_
    rotate_left
    · intro w'
      go_simp
      with_reducible rfl
    rotate_left
    · simp only [Act.put, List.setIfInBounds_toArray, List.set_cons_zero, List.set_cons_succ, i64_w, i32_w]
      rfl
    refine pure_ (i := 2) (N := some 29) (v := ?_) (a' := ?_) #[true, true, true, false, false, false, false, false, false, false, false] rfl rfl (any_of HT_.out (by kernel_rfl)) (fun _ _ _ h => h) (Or.inl ⟨by rfl, ?_⟩) ?_ ?_
    rotate_left
    · intro w'
      go_simp
      with_reducible rfl
    rotate_left
    · simp only [Act.put, List.setIfInBounds_toArray, List.set_cons_zero, List.set_cons_succ, i64_w, i32_w]
      rfl
    refine pure_ (i := 4) (N := some 31) (v := ?_) (a' := ?_) #[true, true, true, false, true, false, false, false, false, false, false] rfl rfl (any_of HT_.out (by kernel_rfl)) (fun _ _ _ h => h) (Or.inl ⟨by rfl, ?_⟩) ?_ ?_
    rotate_left
    · intro w'
      go_simp
      with_reducible rfl
    rotate_left
    · simp only [Act.put, List.setIfInBounds_toArray, List.set_cons_zero, List.set_cons_succ, i64_w, i32_w]
      rfl
    refine take_ (i := 5) (N := some 32) (v := ?_) (a' := ?_) #[true, true, true, false, true, true, false, false, false, false, false] rfl rfl (take_ofW HT_.out HW_.out (by kernel_rfl)) (fun _ _ _ h => h) (Or.inl ⟨by rfl, ?_⟩) hHeld ?_ ?_
    rotate_left
    · rintro w' ⟨s0, s1, s2, s3, s4⟩
      go_simp
      with_reducible rfl
    rotate_left
    · simp only [Act.put, List.setIfInBounds_toArray, List.set_cons_zero, List.set_cons_succ, i64_w, i32_w]
      rfl
    refine pure_ (i := 6) (N := some 33) (v := ?_) (a' := ?_) #[true, true, true, false, true, true, true, false, false, false, false] rfl rfl (any_of HT_.out (by kernel_rfl)) (fun _ _ _ h => h) (Or.inl ⟨by rfl, ?_⟩) ?_ ?_
    rotate_left
    · intro w'
      go_simp
      with_reducible rfl
    rotate_left
    · simp only [Act.put, List.setIfInBounds_toArray, List.set_cons_zero, List.set_cons_succ, i64_w, i32_w]
      rfl
    refine pure_ (i := 7) (N := some 34) (v := ?_) (a' := ?_) #[true, true, true, false, true, true, true, true, false, false, false] rfl rfl (any_of HT_.out (by kernel_rfl)) (fun _ _ _ h => h) (Or.inl ⟨by rfl, ?_⟩) ?_ ?_
    rotate_left
    · intro w'
      go_simp
      with_reducible rfl
    rotate_left
    · simp only [Act.put, List.setIfInBounds_toArray, List.set_cons_zero, List.set_cons_succ, i64_w, i32_w]
      rfl
    refine one_ (i := 3) (N := some 30) #[true, true, true, true, true, true, true, true, false, false, false] rfl rfl (one_of HT_.out (by kernel_rfl)) (by decide) (fun K hK => ?_)
    refine goes_ Try.func93 (by kernel_rfl) rfl #[.int .u64 (IntKind.u64.wrap (wrap64 ((wrap64 ((wrap64 (256 * (wrap64 ((wrap64 (256 * (wrap64 ((wrap64 (256 * (wrap64 (wrap64 (a0_1))))) + (wrap64 (a0_2)))))) + (wrap64 (a0_3)))))) + (wrap64 (a0_4)))) + 2147483648)))] (by rfl) rfl rfl (by (try simp only [List.map_toArray, List.map_cons, List.map_nil]); first | done | rfl | (simp only [List.length_drop, List.length_take]; rfl)) ?_
    with_reducible refine (bakeref2_natOf.calls k (IntKind.u64.wrap (wrap64 ((wrap64 ((wrap64 (256 * (wrap64 ((wrap64 (256 * (wrap64 ((wrap64 (256 * (wrap64 (wrap64 (a0_1))))) + (wrap64 (a0_2)))))) + (wrap64 (a0_3)))))) + (wrap64 (a0_4)))) + 2147483648))) t243 _ A8.out).mono ?_
    rintro e w12 ⟨v244, rfl, ho0, hb⟩
    refine ⟨_, rfl, ?_⟩
    have n0_ := Aside0.mk (Kd.R_lower ho0 (below_size (by repeat (first | (with_reducible first | exact HB.out | apply below_alloc | apply pw_below_drewN | apply below_drew1 | refine below_set ?_ GE239.out) | exact HB.out))))
    have n1_ := Aside0.mk (blk_below (g := gb239) (o := .cells #[.int .u8 a0_0, .int .u8 a0_1, .int .u8 a0_2, .int .u8 a0_3, .int .u8 a0_4] 57 (0, 0)) (by (with_reducible repeat (first | refine blk_drewN ?_ _ | refine blk_drew ?_ | refine blk_alloc ?_ _)); exact BK239.out) hb)
    have n2_ := Aside0.mk (below_step (by repeat (first | (with_reducible first | exact HB.out | apply below_alloc | apply pw_below_drewN | apply below_drew1 | refine below_set ?_ GE239.out) | exact HB.out)) hb)
    clear BK239
    clear HB
    have HO245 := n0_
    have BK239 := n1_
    have HB := n2_
    clear n0_ n1_ n2_
    (try clear hb)
    (try clear hb2)
    (try clear hk)
    (try clear hi)
    (try clear ho0)
    refine hK.out _ _ ⟨(blk_cell BK239.out 0).trans rfl, (blk_cell BK239.out 1).trans rfl, (blk_cell BK239.out 2).trans rfl, (blk_cell BK239.out 3).trans rfl, (blk_cell BK239.out 4).trans rfl⟩ (fun hHeld => ?_)
    clear hK K
    refine norm_ (a' := ?_) ?_ ?_
    rotate_left
    · show Act.put _ (some 30) _ = _
      simp only [Act.put, List.setIfInBounds_toArray, List.set_cons_zero, List.set_cons_succ, i64_w, i32_w]
      rfl
    refine pure_ (i := 8) (N := some 2) (v := ?_) (a' := ?_) #[true, true, true, true, true, true, true, true, true, false, false] rfl rfl (any_of HT_.out (by kernel_rfl)) (fun _ _ _ h => h) (Or.inl ⟨by rfl, ?_⟩) ?_ ?_
    rotate_left
    · intro w'
      go_simp
      with_reducible rfl
    rotate_left
    · simp only [Act.put, List.setIfInBounds_toArray, List.set_cons_zero, List.set_cons_succ, i64_w, i32_w]
      rfl
    refine pure_ (i := 9) (N := some 3) (v := ?_) (a' := ?_) #[true, true, true, true, true, true, true, true, true, true, false] rfl rfl (any_of HT_.out (by kernel_rfl)) (fun _ _ _ h => h) (Or.inl ⟨by rfl, ?_⟩) ?_ ?_
    rotate_left
    · intro w'
      go_simp
      with_reducible rfl
    rotate_left
    · simp only [Act.put, List.setIfInBounds_toArray, List.set_cons_zero, List.set_cons_succ, i64_w, i32_w]
      rfl
    refine pure_ (i := 10) (N := some 4) (v := ?_) (a' := ?_) #[true, true, true, true, true, true, true, true, true, true, true] rfl rfl (any_of HT_.out (by kernel_rfl)) (fun _ _ _ h => h) (Or.inl ⟨by rfl, ?_⟩) ?_ ?_
    rotate_left
    · intro w'
      go_simp
      with_reducible rfl
    rotate_left
    · simp only [Act.put, List.setIfInBounds_toArray, List.set_cons_zero, List.set_cons_succ, i64_w, i32_w]
      rfl
    refine done_ (done_of HT_.out (by kernel_rfl)) ?_
    try go_wp2
    go_ret3
    exact ⟨_, by first | rfl | (simp [errW_none, errW_some] <;> rfl) | (simp [*, errW_none, errW_some] <;> rfl), by (with_reducible repeat (first | apply Kd.R_alloc | apply Kd.R_drewN | apply Kd.R_drew)); exact HO245.out, by repeat (first | (with_reducible first | exact HB.out | apply below_alloc | apply pw_below_drewN | apply below_drew1 | refine below_set ?_ GE239.out) | exact HB.out)⟩

/-! ### bakeref2_nat_twice: function 104 -/
def bakeref2_nat_twice.l0 : Nat → List Int → Int → Int → Option (List Int)
  | 0, _, _, _ => none
  | k + 1, x0, x5, x6 => if x6 < x5 then ((bakeref2_nat_times.f k x0 2).bind fun t246 => (bakeref2_nat_twice.l0 k t246 x5 (wrap64 (x6 + 1)))) else (some x0)
def bakeref2_nat_twice.f (k : Nat) (l0 : List Int) (a1 : Int) : Option (List Int) := bakeref2_nat_twice.l0 k l0 a1 0
theorem bakeref2_nat_twice.mono_l : ∀ k, (∀ y0 y1 y2, LeO (bakeref2_nat_twice.l0 k y0 y1 y2) (bakeref2_nat_twice.l0 (k + 1) y0 y1 y2))
  | 0 => fun _ _ _ r h => by simp [bakeref2_nat_twice.l0] at h
  | k + 1 => by
    have ih0 := bakeref2_nat_twice.mono_l k
    · intro y0 y1 y2
      unfold bakeref2_nat_twice.l0
      repeat' first
      | (with_reducible exact ih0 _ _ _)
      | (with_reducible exact bakeref2_nat_times.mono _ _ _)
      | (with_reducible exact LeO.refl _)
      | (with_reducible exact LeO.none _)
      | (with_reducible refine LeO.ite ?_ ?_)
      | (with_reducible refine LeO.bind ?_ (fun _ => ?_))
      | exact ih0 _ _ _
      | exact bakeref2_nat_times.mono _ _ _
      | exact LeO.none _
      | refine LeO.ite ?_ ?_
      | refine LeO.bind ?_ (fun _ => ?_)
theorem bakeref2_nat_twice.mono : ∀ a0 a1 k, LeO (bakeref2_nat_twice.f k a0 a1) (bakeref2_nat_twice.f (k + 1) a0 a1) := by
  intro a0 a1 k
  have ih0 := bakeref2_nat_twice.mono_l k
  unfold bakeref2_nat_twice.f
  repeat' first
      | (with_reducible exact ih0 _ _ _)
      | (with_reducible exact bakeref2_nat_times.mono _ _ _)
      | (with_reducible exact LeO.refl _)
      | (with_reducible exact LeO.none _)
      | (with_reducible refine LeO.ite ?_ ?_)
      | (with_reducible refine LeO.bind ?_ (fun _ => ?_))
      | exact ih0 _ _ _
      | exact bakeref2_nat_times.mono _ _ _
      | exact LeO.none _
      | refine LeO.ite ?_ ?_
      | refine LeO.bind ?_ (fun _ => ?_)
set_option maxHeartbeats 8000000 in
set_option maxRecDepth 100000 in
theorem bakeref2_nat_twice.calls (k : Nat) (P0_ : Nat → Prop) (A0 : Option Addr) (c0 : Nat) (l0 : List Int) (a1 : Int) (r : List Int) (w : World) (hs0 : Kd.V (Kd.int .i64) 3 w w.heap.size (fun k_ => P0_ k_) (.slice A0 l0.length c0) l0) (h : bakeref2_nat_twice.f k l0 a1 = some r) :
    Calls Try.prog 104 #[.slice A0 l0.length c0, .int .i64 a1] w fun e w' => ∃ v0_ : Value, e = .returned (v0_) ∧ Kd.V (Kd.int .i64) 3 w' w.heap.size (fun k_ => (P0_ k_ ∨ w.heap.size ≤ k_)) v0_ r ∧ Below w.heap.size w w' := by
  have HO0 := Aside0.mk (show Kd.V (Kd.int .i64) 3 w w.heap.size (fun k_ => (P0_ k_ ∨ w.heap.size ≤ k_)) (.slice A0 l0.length c0) l0 from Kd.V_mono hs0 (fun k_ hk => .inl hk))
  have HB := Aside0.mk (Below.refl w.heap.size w)
  have H : (bakeref2_nat_twice.l0 k l0 a1 0) = some r := h
  clear h
  have H' := Aside0.mk H
  clear H
  go_enter Try.func104, Try.ntmps104
  go_wp2
  go_loopg [0, 6] k (fun kq v0 v6 w' => ∃ (x0_1 : List Int) (x6_1 : Int), v6 = .int .i64 x6_1 ∧ Aside0 (bakeref2_nat_twice.l0 kq x0_1 a1 x6_1 = some r) ∧ Aside0 (kq ≤ k) ∧ Aside0 (Kd.V (Kd.int .i64) 3 w' w.heap.size (fun k_ => (P0_ k_ ∨ w.heap.size ≤ k_)) v0 x0_1) ∧ Aside0 (Below w.heap.size w w'))
  case atStart => exact ⟨(l0), (0), (by first | rfl | (simp; done) | (simp [*]; done)), H', ⟨Nat.le_refl _⟩, ⟨by (with_reducible repeat (first | apply Kd.V_alloc | apply Kd.V_drewN | apply Kd.V_drew)); exact HO0.out⟩, ⟨by repeat (first | (with_reducible first | exact HB.out | apply below_alloc | apply pw_below_drewN | apply below_drew1) | exact HB.out)⟩⟩
  case round =>
    clear H'
    try clear c1
    try clear p2
    obtain ⟨x0_1, x6_1, rfl, HA, HK1, HO_0, HB⟩ := hrel
    cases gk with
    | zero => exact absurd HA.out (by simp [bakeref2_nat_twice.l0])
    | succ k1 =>
      have H := HA.out
      clear HA
      simp only [bakeref2_nat_twice.l0] at H
      by_cases c3 : x6_1 < a1
      · rw [if_pos c3] at H
        have c3b0 : decide (x6_1 < a1) = true := decide_eq_true c3
        clear c3
        replace H := Option.bind_eq_some_iff.mp H
        obtain ⟨t246, A40, H⟩ := H
        replace H : (bakeref2_nat_twice.l0 k1 t246 a1 (wrap64 (x6_1 + 1))) = some r := H
        have A4 := Aside0.mk A40
        clear A40
        have H' := Aside0.mk H
        clear H
        obtain ⟨Ao5, co5, eo5⟩ := Kd.V_slice HO_0.out
        subst eo5
        go_wp2_with (first | ((with_reducible refine gate_callee (f := 121) rfl ?_); refine goesL_ (some 9) rfl rfl Try.func121 (by kernel_rfl) rfl #[.slice Ao5 x0_1.length co5, .int .i64 2] rfl (by (try simp only [List.map_toArray, List.map_cons, List.map_nil]); first | done | rfl | (simp only [List.length_drop, List.length_take]; rfl)) ?_; (with_reducible refine (bakeref2_nat_times.calls k1 _ _ x0_1 2 t246 _ ?side1 ?side2 A4.out).mono ?_); (case side1 => repeat (first | exact (Kd.V_reads' HO_0.out).2.2 | (with_reducible refine Kd.C_alloc ?_ _) | (with_reducible refine Kd.C_drewN ?_ _) | (with_reducible refine Kd.C_drew ?_))); (case side2 => exact (Kd.V_reads' HO_0.out).2.1); rintro e w6 ⟨v247, rfl, ho0, hb⟩; refine ⟨_, rfl, ?_⟩; have n0_ := Aside0.mk (Kd.V_elder' (by (with_reducible repeat (first | apply Kd.V_alloc | apply Kd.V_drewN | apply Kd.V_drew)); exact HO_0.out) (Kd.R_base ho0) hb); have n1_ := Aside0.mk (Kd.R_lower (Kd.R_newM (M := fun k_ => (w.heap.size ≤ k_)) ho0 (below_size (by repeat (first | (with_reducible first | exact HB.out | apply below_alloc | apply pw_below_drewN | apply below_drew1) | exact HB.out))) (fun k_ h_ => h_)) (below_size (by repeat (first | (with_reducible first | exact HB.out | apply below_alloc | apply pw_below_drewN | apply below_drew1) | exact HB.out)))); have n2_ := Aside0.mk (below_step (by repeat (first | (with_reducible first | exact HB.out | apply below_alloc | apply pw_below_drewN | apply below_drew1) | exact HB.out)) hb); clear HO_0; clear HB; have HO_0 := n0_; have HO248 := n1_; have HB := n2_; clear n0_ n1_ n2_; (try clear hb); (try clear hb2); (try clear hk); (try clear hi); (try clear ho0)))
        go_roundg k1
        case measure => have := HK1.out; omega
        case rel => exact ⟨(t246), (wrap64 (x6_1 + 1)), (by first | rfl | (simp; done) | (simp [*]; done)), H', ⟨by have := HK1.out; omega⟩, ⟨Kd.V_mono (Kd.R_V (by (with_reducible repeat (first | apply Kd.R_alloc | apply Kd.R_drewN | apply Kd.R_drew)); exact Kd.R_mono HO248.out (fun _ hk => hk.1))) (fun k_ hk => by first | exact ⟨(.inr (hk.1)), hk.2⟩ | exact (.inr (hk)))⟩, ⟨by repeat (first | (with_reducible first | exact HB.out | apply below_alloc | apply pw_below_drewN | apply below_drew1) | exact HB.out)⟩⟩
      · rw [if_neg c3] at H
        have c3b0 : decide (x6_1 < a1) = false := decide_eq_false c3
        clear c3
        obtain rfl := Option.some.inj H
        go_wp2
        go_ret
        exact ⟨_, by first | rfl | (simp [errW_none, errW_some] <;> rfl) | (simp [*, errW_none, errW_some] <;> rfl), by (with_reducible repeat (first | apply Kd.V_alloc | apply Kd.V_drewN | apply Kd.V_drew)); exact HO_0.out, by repeat (first | (with_reducible first | exact HB.out | apply below_alloc | apply pw_below_drewN | apply below_drew1) | exact HB.out)⟩

end Go.Proofs.Ytgiodeiibmbhhaa.PFiveAdds
