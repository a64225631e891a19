-- Written by this session's own program (wip/mp, over the kit's print) for this claim; Lean checks it.
import Derived.Test.YtmedmifkeliepaaPFiveMulsx0
import Derived.Test.YtmedmifkeliepaaPFiveMulsx3
namespace Go.Proofs.Ytmedmifkeliepaa.PFiveMuls
open Go.RowKit Go.Proofs.YtmedmifkeliepaaW.PrintWords Go.Proofs.YtmedmifkeliepaaW.PrintLast Go.Proofs.YtmedmifkeliepaaW.PrintMore
attribute [local go_sem] max2_int min2_int max_two min_two max_three min_three max_four min_four   -- for this text's walks alone
set_option linter.unusedVariables false
set_option linter.unusedSimpArgs false

/-! ### bakeref2_split: function 33 -/
def bakeref2_split.f (k : Nat) (a0_0 : Int) (a0_1 : Int) (a0_2 : Int) (a0_3 : Int) (a0_4 : Int) : Option (Bool × List Int × Int) := if ((wrap64 ((wrap64 (256 * (wrap64 ((wrap64 (256 * (wrap64 ((wrap64 (256 * (wrap64 (wrap64 (a0_1))))) + (wrap64 (a0_2)))))) + (wrap64 (a0_3)))))) + (wrap64 (a0_4)))) ≥ 2147483648) then ((bakeref2_natOf.f k (IntKind.u64.wrap (wrap64 ((wrap64 (256 * (wrap64 ((wrap64 (256 * (wrap64 ((wrap64 (256 * (wrap64 (wrap64 (a0_1))))) + (wrap64 (a0_2)))))) + (wrap64 (a0_3)))))) + (wrap64 (a0_4)))))).bind fun t150 => (some (decide ((wrap64 ((wrap64 (256 * (wrap64 ((wrap64 (256 * (wrap64 ((wrap64 (256 * (wrap64 (wrap64 (a0_1))))) + (wrap64 (a0_2)))))) + (wrap64 (a0_3)))))) + (wrap64 (a0_4)))) ≥ 2147483648), t150, wrap64 ((wrap64 (a0_0)) - 160)))) else ((bakeref2_natOf.f k (IntKind.u64.wrap (wrap64 ((wrap64 ((wrap64 (256 * (wrap64 ((wrap64 (256 * (wrap64 ((wrap64 (256 * (wrap64 (wrap64 (a0_1))))) + (wrap64 (a0_2)))))) + (wrap64 (a0_3)))))) + (wrap64 (a0_4)))) + 2147483648)))).bind fun t153 => (some (decide ((wrap64 ((wrap64 (256 * (wrap64 ((wrap64 (256 * (wrap64 ((wrap64 (256 * (wrap64 (wrap64 (a0_1))))) + (wrap64 (a0_2)))))) + (wrap64 (a0_3)))))) + (wrap64 (a0_4)))) ≥ 2147483648), t153, wrap64 ((wrap64 (a0_0)) - 160))))
theorem bakeref2_split.mono : ∀ a0 a1 a2 a3 a4 k, LeO (bakeref2_split.f k a0 a1 a2 a3 a4) (bakeref2_split.f (k + 1) a0 a1 a2 a3 a4) := by
  intro a0 a1 a2 a3 a4 k
  unfold bakeref2_split.f
  repeat' first
      | (with_reducible exact bakeref2_natOf.mono _ _)
      | (with_reducible exact LeO.refl _)
      | (with_reducible exact LeO.none _)
      | (with_reducible refine LeO.ite ?_ ?_)
      | (with_reducible refine LeO.bind ?_ (fun _ => ?_))
      | exact bakeref2_natOf.mono _ _
      | exact LeO.none _
      | refine LeO.ite ?_ ?_
      | refine LeO.bind ?_ (fun _ => ?_)
def bakeref2_split.T10 : Bool × List (List Nat × List Nat) := (true, [([], []), ([], []), ([1], [1]), ([2], [2]), ([], []), ([4], [4]), ([5], [5]), ([6], [6]), ([0, 3, 0], [0]), ([3, 8, 0, 1, 2, 3, 8], [3]), ([7, 9, 0, 1, 2, 3, 4, 5, 6, 7, 8, 9], [7])])
def bakeref2_split.B10 : List Nat := [0, 0, 2, 6, 0, 16, 48, 112, 15, 271, 1023]
theorem bakeref2_split.tab10 : rtab .any (opsOf Try.f33 10) = bakeref2_split.T10 := by kernel_rfl
theorem bakeref2_split.bits10 : waitsOk bakeref2_split.T10.2 bakeref2_split.B10 = true := by kernel_rfl
set_option maxHeartbeats 8000000 in
set_option maxRecDepth 100000 in
theorem bakeref2_split.calls (k : Nat) (a0_0 : Int) (a0_1 : Int) (a0_2 : Int) (a0_3 : Int) (a0_4 : Int) (r1 : Bool) (r2 : List Int) (r3 : Int) (w : World) (h : bakeref2_split.f k a0_0 a0_1 a0_2 a0_3 a0_4 = some (r1, r2, r3)) :
    Calls Try.prog 33 #[.agg #[.int .u8 a0_0, .int .u8 a0_1, .int .u8 a0_2, .int .u8 a0_3, .int .u8 a0_4]] w fun e w' => ∃ v1_ : Value, e = .returned (.tuple #[.bool r1, v1_, .int .i64 r3]) ∧ Kd.R (Kd.int .i64) 3 w' w.heap.size (fun _ => True) v1_ r2 ∧ Below w.heap.size w w' := by
  have hu36 := Try.underlying36
  have HB := Aside0.mk (Below.refl w.heap.size w)
  have H : (if ((wrap64 ((wrap64 (256 * (wrap64 ((wrap64 (256 * (wrap64 ((wrap64 (256 * (wrap64 (wrap64 (a0_1))))) + (wrap64 (a0_2)))))) + (wrap64 (a0_3)))))) + (wrap64 (a0_4)))) ≥ 2147483648) then ((bakeref2_natOf.f k (IntKind.u64.wrap (wrap64 ((wrap64 (256 * (wrap64 ((wrap64 (256 * (wrap64 ((wrap64 (256 * (wrap64 (wrap64 (a0_1))))) + (wrap64 (a0_2)))))) + (wrap64 (a0_3)))))) + (wrap64 (a0_4)))))).bind fun t150 => (some (decide ((wrap64 ((wrap64 (256 * (wrap64 ((wrap64 (256 * (wrap64 ((wrap64 (256 * (wrap64 (wrap64 (a0_1))))) + (wrap64 (a0_2)))))) + (wrap64 (a0_3)))))) + (wrap64 (a0_4)))) ≥ 2147483648), t150, wrap64 ((wrap64 (a0_0)) - 160)))) else ((bakeref2_natOf.f k (IntKind.u64.wrap (wrap64 ((wrap64 ((wrap64 (256 * (wrap64 ((wrap64 (256 * (wrap64 ((wrap64 (256 * (wrap64 (wrap64 (a0_1))))) + (wrap64 (a0_2)))))) + (wrap64 (a0_3)))))) + (wrap64 (a0_4)))) + 2147483648)))).bind fun t153 => (some (decide ((wrap64 ((wrap64 (256 * (wrap64 ((wrap64 (256 * (wrap64 ((wrap64 (256 * (wrap64 (wrap64 (a0_1))))) + (wrap64 (a0_2)))))) + (wrap64 (a0_3)))))) + (wrap64 (a0_4)))) ≥ 2147483648), t153, wrap64 ((wrap64 (a0_0)) - 160))))) = some (r1, r2, r3) := h
  clear h
  by_cases c2 : ((wrap64 ((wrap64 (256 * (wrap64 ((wrap64 (256 * (wrap64 ((wrap64 (256 * (wrap64 (wrap64 (a0_1))))) + (wrap64 (a0_2)))))) + (wrap64 (a0_3)))))) + (wrap64 (a0_4)))) ≥ 2147483648)
  · rw [if_pos c2] at H
    have c2b0 : decide (2147483648 ≤ (wrap64 ((wrap64 (256 * (wrap64 ((wrap64 (256 * (wrap64 ((wrap64 (256 * (wrap64 (wrap64 (a0_1))))) + (wrap64 (a0_2)))))) + (wrap64 (a0_3)))))) + (wrap64 (a0_4))))) = true := decide_eq_true c2
    clear c2
    replace H := Option.bind_eq_some_iff.mp H
    obtain ⟨t150, A30, H⟩ := H
    replace H : (some (decide ((wrap64 ((wrap64 (256 * (wrap64 ((wrap64 (256 * (wrap64 ((wrap64 (256 * (wrap64 (wrap64 (a0_1))))) + (wrap64 (a0_2)))))) + (wrap64 (a0_3)))))) + (wrap64 (a0_4)))) ≥ 2147483648), t150, wrap64 ((wrap64 (a0_0)) - 160))) = some (r1, r2, r3) := H
    have A3 := Aside0.mk A30
    clear A30
    simp only [Option.some.injEq, Prod.mk.injEq] at H
    obtain ⟨rfl, rfl, rfl⟩ := H
    go_enter Try.func33, Try.ntmps33
    go_wp2_with (first | ((with_reducible refine gate_dst (N := 1) rfl ?_); refine box_event ?hg (N := 1) ?hd (cs := #[.int .u8 a0_0, .int .u8 a0_1, .int .u8 a0_2, .int .u8 a0_3, .int .u8 a0_4]) (t := 36) ?hr ?_; (case hd => rfl); (case hg => rfl); (case hr => first | (go_simp; done) | (go_simp; rfl)); intro gb149 hg w4 hbox hb; have n0_ := Aside0.mk (below_step (by repeat (first | (with_reducible first | exact HB.out | apply below_alloc | apply pw_below_drewN | apply below_drew1) | exact HB.out)) hb); have n1_ := Aside0.mk (hbox); have n2_ := Aside0.mk ((by rw [hg]; exact (below_size (by repeat (first | (with_reducible first | exact HB.out | apply below_alloc | apply pw_below_drewN | apply below_drew1) | exact HB.out))) : w.heap.size ≤ gb149)); have n3_ := Aside0.mk ((by rw [hg]; exact (below_size (by repeat (first | (with_reducible first | exact HB.out | apply below_alloc | apply pw_below_drewN | apply below_drew1) | exact HB.out))) : w.heap.size ≤ gb149)); clear HB; have HB := n0_; have BK149 := n1_; have GW149 := n2_; have GE149 := n3_; clear n0_ n1_ n2_ n3_; clear hb hbox hg; have hcz5_0 : w4.cell? ⟨gb149, 0, none⟩ = some (.int .u8 a0_0) := (blk_cell BK149.out 0).trans rfl; have hcz5_1 : w4.cell? ⟨gb149, 1, none⟩ = some (.int .u8 a0_1) := (blk_cell BK149.out 1).trans rfl; have hcz5_2 : w4.cell? ⟨gb149, 2, none⟩ = some (.int .u8 a0_2) := (blk_cell BK149.out 2).trans rfl; have hcz5_3 : w4.cell? ⟨gb149, 3, none⟩ = some (.int .u8 a0_3) := (blk_cell BK149.out 3).trans rfl; have hcz5_4 : w4.cell? ⟨gb149, 4, none⟩ = some (.int .u8 a0_4) := (blk_cell BK149.out 4).trans rfl; have hfz5_0 := blk_frozen BK149.out 0; have hfz5_1 := blk_frozen BK149.out 1; have hfz5_2 := blk_frozen BK149.out 2; have hfz5_3 := blk_frozen BK149.out 3; have hfz5_4 := blk_frozen BK149.out 4))
    have hca0 : w4.cell? ((⟨gb149, 1, none⟩ : Addr).add 0) = some (.int .u8 a0_1) := by rw [show ((⟨gb149, 1, none⟩ : Addr).add 0) = ⟨gb149, 1, none⟩ from rfl]; exact (blk_cell BK149.out 1).trans rfl
    have hca1 : w4.cell? ((⟨gb149, 1, none⟩ : Addr).add 1) = some (.int .u8 a0_2) := by rw [show ((⟨gb149, 1, none⟩ : Addr).add 1) = ⟨gb149, 2, none⟩ from rfl]; exact (blk_cell BK149.out 2).trans rfl
    have hca2 : w4.cell? ((⟨gb149, 1, none⟩ : Addr).add 2) = some (.int .u8 a0_3) := by rw [show ((⟨gb149, 1, none⟩ : Addr).add 2) = ⟨gb149, 3, none⟩ from rfl]; exact (blk_cell BK149.out 3).trans rfl
    have hca3 : w4.cell? ((⟨gb149, 1, none⟩ : Addr).add 3) = some (.int .u8 a0_4) := by rw [show ((⟨gb149, 1, none⟩ : Addr).add 3) = ⟨gb149, 4, none⟩ from rfl]; exact (blk_cell BK149.out 4).trans rfl
    go_loopg [5, 7, 11] 4 (fun kq v5 v7 v11 w' => ∃ (m_ j_ : Int), v5 = .int .i64 m_ ∧ v11 = .int .i64 j_ ∧ ((kq = 4 ∧ j_ = 0 ∧ m_ = 0) ∨ (kq = 3 ∧ j_ = 1 ∧ m_ = (wrap64 (wrap64 (a0_1)))) ∨ (kq = 2 ∧ j_ = 2 ∧ m_ = (wrap64 ((wrap64 (256 * (wrap64 (wrap64 (a0_1))))) + (wrap64 (a0_2))))) ∨ (kq = 1 ∧ j_ = 3 ∧ m_ = (wrap64 ((wrap64 (256 * (wrap64 ((wrap64 (256 * (wrap64 (wrap64 (a0_1))))) + (wrap64 (a0_2)))))) + (wrap64 (a0_3))))) ∨ (kq = 0 ∧ j_ = 4 ∧ m_ = (wrap64 ((wrap64 (256 * (wrap64 ((wrap64 (256 * (wrap64 ((wrap64 (256 * (wrap64 (wrap64 (a0_1))))) + (wrap64 (a0_2)))))) + (wrap64 (a0_3)))))) + (wrap64 (a0_4)))))) ∧ w4 = w')
    case atStart => exact ⟨0, 0, (by first | rfl | (simp; done)), (by first | rfl | (simp; done)), .inl ⟨rfl, rfl, rfl⟩, rfl⟩
    obtain ⟨m_, j_, rfl, rfl, hj_, hw_⟩ := hrel
    subst hw_
    rcases hj_ with ⟨rfl, rfl, rfl⟩ | ⟨rfl, rfl, rfl⟩ | ⟨rfl, rfl, rfl⟩ | ⟨rfl, rfl, rfl⟩ | ⟨rfl, rfl, rfl⟩
    · go_wp2
      go_roundg 3
      case measure => omega
      case rel => exact ⟨_, 1, rfl, (by first | rfl | (simp; done)), .inr (.inl ⟨rfl, rfl, by first | rfl | (simp; done)⟩), rfl⟩
    · go_wp2
      go_roundg 2
      case measure => omega
      case rel => exact ⟨_, 2, rfl, (by first | rfl | (simp; done)), .inr (.inr (.inl ⟨rfl, rfl, by first | rfl | (simp; done)⟩)), rfl⟩
    · go_wp2
      go_roundg 1
      case measure => omega
      case rel => exact ⟨_, 3, rfl, (by first | rfl | (simp; done)), .inr (.inr (.inr (.inl ⟨rfl, rfl, by first | rfl | (simp; done)⟩))), rfl⟩
    · go_wp2
      go_roundg 0
      case measure => omega
      case rel => exact ⟨_, 4, rfl, (by first | rfl | (simp; done)), .inr (.inr (.inr (.inr (⟨rfl, rfl, by first | rfl | (simp; done)⟩)))), rfl⟩
    go_wp2
    have n0_ := Aside0.mk (blk_drew BK149.out)
    have n1_ := Aside0.mk (below_drew1 HB.out)
    clear BK149
    clear HB
    have BK149 := n0_
    have HB := n1_
    clear n0_ n1_
    refine start_ (n := 11) (S := fun w' => w'.cell? ⟨gb149, 0, none⟩ = some (.int .u8 a0_0) ∧ w'.cell? ⟨gb149, 1, none⟩ = some (.int .u8 a0_1) ∧ w'.cell? ⟨gb149, 2, none⟩ = some (.int .u8 a0_2) ∧ w'.cell? ⟨gb149, 3, none⟩ = some (.int .u8 a0_3) ∧ w'.cell? ⟨gb149, 4, none⟩ = some (.int .u8 a0_4)) (ds := []) #[false, false, false, false, false, false, false, false, false, false, false] (by kernel_rfl) rfl rfl ⟨(blk_cell BK149.out 0).trans rfl, (blk_cell BK149.out 1).trans rfl, (blk_cell BK149.out 2).trans rfl, (blk_cell BK149.out 3).trans rfl, (blk_cell BK149.out 4).trans rfl⟩ (fun hHeld => ?_); refine with_tabW bakeref2_split.tab10 bakeref2_split.bits10 (fun HT_ HW_ => ?_)
    generalize w4.drew = w6 at BK149 HB hHeld ⊢
    refine pure_ (i := 0) (N := some 27) (v := ?_) (a' := ?_) #[true, false, false, false, false, false, false, false, false, false, false] rfl rfl (any_of HT_.out (by kernel_rfl)) (fun _ _ _ h => h) (Or.inl ⟨by rfl, ?_⟩) ?_ ?_
    rotate_left
    · intro w'
      go_simp
      with_reducible rfl
    rotate_left
    · simp only [Act.put, List.setIfInBounds_toArray, List.set_cons_zero, List.set_cons_succ, i64_w, i32_w]
      rfl
    refine pure_ (i := 1) (N := some 28) (v := ?_) (a' := ?_) #[true, true, false, false, false, false, false, false, false, false, false] rfl rfl (any_of HT_.out (by kernel_rfl)) (fun _ _ _ h => h) (Or.inl ⟨by rfl, ?_⟩) ?_ ?_
    rotate_left
    · intro w'
      go_simp
      with_reducible rfl
    rotate_left
    · simp only [Act.put, List.setIfInBounds_toArray, List.set_cons_zero, List.set_cons_succ, i64_w, i32_w]
      rfl
    refine pure_ (i := 2) (N := some 29) (v := ?_) (a' := ?_) #[true, true, true, false, false, false, false, false, false, false, false] rfl rfl (any_of HT_.out (by kernel_rfl)) (fun _ _ _ h => h) (Or.inl ⟨by rfl, ?_⟩) ?_ ?_
    rotate_left
    · intro w'
      go_simp
      with_reducible rfl
    rotate_left
    · simp only [Act.put, List.setIfInBounds_toArray, List.set_cons_zero, List.set_cons_succ, i64_w, i32_w]
      rfl
    refine pure_ (i := 4) (N := some 31) (v := ?_) (a' := ?_) #[true, true, true, false, true, false, false, false, false, false, false] rfl rfl (any_of HT_.out (by kernel_rfl)) (fun _ _ _ h => h) (Or.inl ⟨by rfl, ?_⟩) ?_ ?_
    rotate_left
    · intro w'
      go_simp
      with_reducible rfl
    rotate_left
    · simp only [Act.put, List.setIfInBounds_toArray, List.set_cons_zero, List.set_cons_succ, i64_w, i32_w]
      rfl
    refine take_ (i := 5) (N := some 32) (v := ?_) (a' := ?_) #[true, true, true, false, true, true, false, false, false, false, false] rfl rfl (take_ofW HT_.out HW_.out (by kernel_rfl)) (fun _ _ _ h => h) (Or.inl ⟨by rfl, ?_⟩) hHeld ?_ ?_
    rotate_left
    · rintro w' ⟨s0, s1, s2, s3, s4⟩
      go_simp
      with_reducible rfl
    rotate_left
    · simp only [Act.put, List.setIfInBounds_toArray, List.set_cons_zero, List.set_cons_succ, i64_w, i32_w]
      rfl
    refine pure_ (i := 6) (N := some 33) (v := ?_) (a' := ?_) #[true, true, true, false, true, true, true, false, false, false, false] rfl rfl (any_of HT_.out (by kernel_rfl)) (fun _ _ _ h => h) (Or.inl ⟨by rfl, ?_⟩) ?_ ?_
    rotate_left
    · intro w'
      go_simp
      with_reducible rfl
    rotate_left
    · simp only [Act.put, List.setIfInBounds_toArray, List.set_cons_zero, List.set_cons_succ, i64_w, i32_w]
      rfl
    refine pure_ (i := 7) (N := some 34) (v := ?_) (a' := ?_) #[true, true, true, false, true, true, true, true, false, false, false] rfl rfl (any_of HT_.out (by kernel_rfl)) (fun _ _ _ h => h) (Or.inl ⟨by rfl, ?_⟩) ?_ ?_
    rotate_left
    · intro w'
      go_simp
      with_reducible rfl
    rotate_left
    · simp only [Act.put, List.setIfInBounds_toArray, List.set_cons_zero, List.set_cons_succ, i64_w, i32_w]
      rfl
    refine one_ (i := 3) (N := some 30) #[true, true, true, true, true, true, true, true, false, false, false] rfl rfl (one_of HT_.out (by kernel_rfl)) (by decide) (fun K hK => ?_)
    refine goes_ Try.func44 (by kernel_rfl) rfl #[.int .u64 (IntKind.u64.wrap (wrap64 ((wrap64 (256 * (wrap64 ((wrap64 (256 * (wrap64 ((wrap64 (256 * (wrap64 (wrap64 (a0_1))))) + (wrap64 (a0_2)))))) + (wrap64 (a0_3)))))) + (wrap64 (a0_4)))))] (by rfl) rfl rfl (by (try simp only [List.map_toArray, List.map_cons, List.map_nil]); first | done | rfl | (simp only [List.length_drop, List.length_take]; rfl)) ?_
    with_reducible refine (bakeref2_natOf.calls k (IntKind.u64.wrap (wrap64 ((wrap64 (256 * (wrap64 ((wrap64 (256 * (wrap64 ((wrap64 (256 * (wrap64 (wrap64 (a0_1))))) + (wrap64 (a0_2)))))) + (wrap64 (a0_3)))))) + (wrap64 (a0_4))))) t150 _ A3.out).mono ?_
    rintro e w7 ⟨v151, rfl, ho0, hb⟩
    refine ⟨_, rfl, ?_⟩
    have n0_ := Aside0.mk (Kd.R_lower ho0 (below_size (by repeat (first | (with_reducible first | exact HB.out | apply below_alloc | apply pw_below_drewN | apply below_drew1 | refine below_set ?_ GE149.out) | exact HB.out))))
    have n1_ := Aside0.mk (blk_below (g := gb149) (o := .cells #[.int .u8 a0_0, .int .u8 a0_1, .int .u8 a0_2, .int .u8 a0_3, .int .u8 a0_4] 36 (0, 0)) (by (with_reducible repeat (first | refine blk_drewN ?_ _ | refine blk_drew ?_ | refine blk_alloc ?_ _)); exact BK149.out) hb)
    have n2_ := Aside0.mk (below_step (by repeat (first | (with_reducible first | exact HB.out | apply below_alloc | apply pw_below_drewN | apply below_drew1 | refine below_set ?_ GE149.out) | exact HB.out)) hb)
    clear BK149
    clear HB
    have HO152 := n0_
    have BK149 := n1_
    have HB := n2_
    clear n0_ n1_ n2_
    (try clear hb)
    (try clear hb2)
    (try clear hk)
    (try clear hi)
    (try clear ho0)
    refine hK.out _ _ ⟨(blk_cell BK149.out 0).trans rfl, (blk_cell BK149.out 1).trans rfl, (blk_cell BK149.out 2).trans rfl, (blk_cell BK149.out 3).trans rfl, (blk_cell BK149.out 4).trans rfl⟩ (fun hHeld => ?_)
    clear hK K
    refine norm_ (a' := ?_) ?_ ?_
    rotate_left
    · show Act.put _ (some 30) _ = _
      simp only [Act.put, List.setIfInBounds_toArray, List.set_cons_zero, List.set_cons_succ, i64_w, i32_w]
      rfl
    refine pure_ (i := 8) (N := some 2) (v := ?_) (a' := ?_) #[true, true, true, true, true, true, true, true, true, false, false] rfl rfl (any_of HT_.out (by kernel_rfl)) (fun _ _ _ h => h) (Or.inl ⟨by rfl, ?_⟩) ?_ ?_
    rotate_left
    · intro w'
      go_simp
      with_reducible rfl
    rotate_left
    · simp only [Act.put, List.setIfInBounds_toArray, List.set_cons_zero, List.set_cons_succ, i64_w, i32_w]
      rfl
    refine pure_ (i := 9) (N := some 3) (v := ?_) (a' := ?_) #[true, true, true, true, true, true, true, true, true, true, false] rfl rfl (any_of HT_.out (by kernel_rfl)) (fun _ _ _ h => h) (Or.inl ⟨by rfl, ?_⟩) ?_ ?_
    rotate_left
    · intro w'
      go_simp
      with_reducible rfl
    rotate_left
    · simp only [Act.put, List.setIfInBounds_toArray, List.set_cons_zero, List.set_cons_succ, i64_w, i32_w]
      rfl
    refine pure_ (i := 10) (N := some 4) (v := ?_) (a' := ?_) #[true, true, true, true, true, true, true, true, true, true, true] rfl rfl (any_of HT_.out (by kernel_rfl)) (fun _ _ _ h => h) (Or.inl ⟨by rfl, ?_⟩) ?_ ?_
    rotate_left
    · intro w'
      go_simp
      with_reducible rfl
    rotate_left
    · simp only [Act.put, List.setIfInBounds_toArray, List.set_cons_zero, List.set_cons_succ, i64_w, i32_w]
      rfl
    refine done_ (done_of HT_.out (by kernel_rfl)) ?_
    try go_wp2
    go_ret3
    exact ⟨_, by first | rfl | (simp [errW_none, errW_some] <;> rfl) | (simp [*, errW_none, errW_some] <;> rfl), by (with_reducible repeat (first | apply Kd.R_alloc | apply Kd.R_drewN | apply Kd.R_drew)); exact HO152.out, by repeat (first | (with_reducible first | exact HB.out | apply below_alloc | apply pw_below_drewN | apply below_drew1 | refine below_set ?_ GE149.out) | exact HB.out)⟩
  · rw [if_neg c2] at H
    have c2b0 : decide (2147483648 ≤ (wrap64 ((wrap64 (256 * (wrap64 ((wrap64 (256 * (wrap64 ((wrap64 (256 * (wrap64 (wrap64 (a0_1))))) + (wrap64 (a0_2)))))) + (wrap64 (a0_3)))))) + (wrap64 (a0_4))))) = false := decide_eq_false c2
    clear c2
    replace H := Option.bind_eq_some_iff.mp H
    obtain ⟨t153, A80, H⟩ := H
    replace H : (some (decide ((wrap64 ((wrap64 (256 * (wrap64 ((wrap64 (256 * (wrap64 ((wrap64 (256 * (wrap64 (wrap64 (a0_1))))) + (wrap64 (a0_2)))))) + (wrap64 (a0_3)))))) + (wrap64 (a0_4)))) ≥ 2147483648), t153, wrap64 ((wrap64 (a0_0)) - 160))) = some (r1, r2, r3) := H
    have A8 := Aside0.mk A80
    clear A80
    simp only [Option.some.injEq, Prod.mk.injEq] at H
    obtain ⟨rfl, rfl, rfl⟩ := H
    go_enter Try.func33, Try.ntmps33
    go_wp2_with (first | ((with_reducible refine gate_dst (N := 1) rfl ?_); refine box_event ?hg (N := 1) ?hd (cs := #[.int .u8 a0_0, .int .u8 a0_1, .int .u8 a0_2, .int .u8 a0_3, .int .u8 a0_4]) (t := 36) ?hr ?_; (case hd => rfl); (case hg => rfl); (case hr => first | (go_simp; done) | (go_simp; rfl)); intro gb149 hg w9 hbox hb; have n0_ := Aside0.mk (below_step (by repeat (first | (with_reducible first | exact HB.out | apply below_alloc | apply pw_below_drewN | apply below_drew1) | exact HB.out)) hb); have n1_ := Aside0.mk (hbox); have n2_ := Aside0.mk ((by rw [hg]; exact (below_size (by repeat (first | (with_reducible first | exact HB.out | apply below_alloc | apply pw_below_drewN | apply below_drew1) | exact HB.out))) : w.heap.size ≤ gb149)); have n3_ := Aside0.mk ((by rw [hg]; exact (below_size (by repeat (first | (with_reducible first | exact HB.out | apply below_alloc | apply pw_below_drewN | apply below_drew1) | exact HB.out))) : w.heap.size ≤ gb149)); clear HB; have HB := n0_; have BK149 := n1_; have GW149 := n2_; have GE149 := n3_; clear n0_ n1_ n2_ n3_; clear hb hbox hg; have hcz10_0 : w9.cell? ⟨gb149, 0, none⟩ = some (.int .u8 a0_0) := (blk_cell BK149.out 0).trans rfl; have hcz10_1 : w9.cell? ⟨gb149, 1, none⟩ = some (.int .u8 a0_1) := (blk_cell BK149.out 1).trans rfl; have hcz10_2 : w9.cell? ⟨gb149, 2, none⟩ = some (.int .u8 a0_2) := (blk_cell BK149.out 2).trans rfl; have hcz10_3 : w9.cell? ⟨gb149, 3, none⟩ = some (.int .u8 a0_3) := (blk_cell BK149.out 3).trans rfl; have hcz10_4 : w9.cell? ⟨gb149, 4, none⟩ = some (.int .u8 a0_4) := (blk_cell BK149.out 4).trans rfl; have hfz10_0 := blk_frozen BK149.out 0; have hfz10_1 := blk_frozen BK149.out 1; have hfz10_2 := blk_frozen BK149.out 2; have hfz10_3 := blk_frozen BK149.out 3; have hfz10_4 := blk_frozen BK149.out 4))
    have hca0 : w9.cell? ((⟨gb149, 1, none⟩ : Addr).add 0) = some (.int .u8 a0_1) := by rw [show ((⟨gb149, 1, none⟩ : Addr).add 0) = ⟨gb149, 1, none⟩ from rfl]; exact (blk_cell BK149.out 1).trans rfl
    have hca1 : w9.cell? ((⟨gb149, 1, none⟩ : Addr).add 1) = some (.int .u8 a0_2) := by rw [show ((⟨gb149, 1, none⟩ : Addr).add 1) = ⟨gb149, 2, none⟩ from rfl]; exact (blk_cell BK149.out 2).trans rfl
    have hca2 : w9.cell? ((⟨gb149, 1, none⟩ : Addr).add 2) = some (.int .u8 a0_3) := by rw [show ((⟨gb149, 1, none⟩ : Addr).add 2) = ⟨gb149, 3, none⟩ from rfl]; exact (blk_cell BK149.out 3).trans rfl
    have hca3 : w9.cell? ((⟨gb149, 1, none⟩ : Addr).add 3) = some (.int .u8 a0_4) := by rw [show ((⟨gb149, 1, none⟩ : Addr).add 3) = ⟨gb149, 4, none⟩ from rfl]; exact (blk_cell BK149.out 4).trans rfl
    go_loopg [5, 7, 11] 4 (fun kq v5 v7 v11 w' => ∃ (m_ j_ : Int), v5 = .int .i64 m_ ∧ v11 = .int .i64 j_ ∧ ((kq = 4 ∧ j_ = 0 ∧ m_ = 0) ∨ (kq = 3 ∧ j_ = 1 ∧ m_ = (wrap64 (wrap64 (a0_1)))) ∨ (kq = 2 ∧ j_ = 2 ∧ m_ = (wrap64 ((wrap64 (256 * (wrap64 (wrap64 (a0_1))))) + (wrap64 (a0_2))))) ∨ (kq = 1 ∧ j_ = 3 ∧ m_ = (wrap64 ((wrap64 (256 * (wrap64 ((wrap64 (256 * (wrap64 (wrap64 (a0_1))))) + (wrap64 (a0_2)))))) + (wrap64 (a0_3))))) ∨ (kq = 0 ∧ j_ = 4 ∧ m_ = (wrap64 ((wrap64 (256 * (wrap64 ((wrap64 (256 * (wrap64 ((wrap64 (256 * (wrap64 (wrap64 (a0_1))))) + (wrap64 (a0_2)))))) + (wrap64 (a0_3)))))) + (wrap64 (a0_4)))))) ∧ w9 = w')
    case atStart => exact ⟨0, 0, (by first | rfl | (simp; done)), (by first | rfl | (simp; done)), .inl ⟨rfl, rfl, rfl⟩, rfl⟩
    obtain ⟨m_, j_, rfl, rfl, hj_, hw_⟩ := hrel
    subst hw_
    rcases hj_ with ⟨rfl, rfl, rfl⟩ | ⟨rfl, rfl, rfl⟩ | ⟨rfl, rfl, rfl⟩ | ⟨rfl, rfl, rfl⟩ | ⟨rfl, rfl, rfl⟩
    · go_wp2
      go_roundg 3
      case measure => omega
      case rel => exact ⟨_, 1, rfl, (by first | rfl | (simp; done)), .inr (.inl ⟨rfl, rfl, by first | rfl | (simp; done)⟩), rfl⟩
    · go_wp2
      go_roundg 2
      case measure => omega
      case rel => exact ⟨_, 2, rfl, (by first | rfl | (simp; done)), .inr (.inr (.inl ⟨rfl, rfl, by first | rfl | (simp; done)⟩)), rfl⟩
    · go_wp2
      go_roundg 1
      case measure => omega
      case rel => exact ⟨_, 3, rfl, (by first | rfl | (simp; done)), .inr (.inr (.inr (.inl ⟨rfl, rfl, by first | rfl | (simp; done)⟩))), rfl⟩
    · go_wp2
      go_roundg 0
      case measure => omega
      case rel => exact ⟨_, 4, rfl, (by first | rfl | (simp; done)), .inr (.inr (.inr (.inr (⟨rfl, rfl, by first | rfl | (simp; done)⟩)))), rfl⟩
    go_wp2
    have n0_ := Aside0.mk (blk_drew BK149.out)
    have n1_ := Aside0.mk (below_drew1 HB.out)
    clear BK149
    clear HB
    have BK149 := n0_
    have HB := n1_
    clear n0_ n1_
    refine start_ (n := 11) (S := fun w' => w'.cell? ⟨gb149, 0, none⟩ = some (.int .u8 a0_0) ∧ w'.cell? ⟨gb149, 1, none⟩ = some (.int .u8 a0_1) ∧ w'.cell? ⟨gb149, 2, none⟩ = some (.int .u8 a0_2) ∧ w'.cell? ⟨gb149, 3, none⟩ = some (.int .u8 a0_3) ∧ w'.cell? ⟨gb149, 4, none⟩ = some (.int .u8 a0_4)) (ds := []) #[false, false, false, false, false, false, false, false, false, false, false] (by kernel_rfl) rfl rfl ⟨(blk_cell BK149.out 0).trans rfl, (blk_cell BK149.out 1).trans rfl, (blk_cell BK149.out 2).trans rfl, (blk_cell BK149.out 3).trans rfl, (blk_cell BK149.out 4).trans rfl⟩ (fun hHeld => ?_); refine with_tabW bakeref2_split.tab10 bakeref2_split.bits10 (fun HT_ HW_ => ?_)
    generalize w9.drew = w11 at BK149 HB hHeld ⊢
    refine pure_ (i := 0) (N := some 27) (v := ?_) (a' := ?_) #[true, false, false, false, false, false, false, false, false, false, false] rfl rfl (any_of HT_.out (by kernel_rfl)) (fun _ _ _ h => h) (Or.inl ⟨by rfl, ?_⟩) ?_ ?_
    rotate_left
    · intro w'
      go_simp
      with_reducible rfl
    rotate_left
    · simp only [Act.put, List.setIfInBounds_toArray, List.set_cons_zero, List.set_cons_succ, i64_w, i32_w]
      rfl
    refine pure_ (i := 1) (N := some 28) (v := ?_) (a' := ?_) #[true, true, false, false, false, false, false, false, false, false, false] rfl rfl (any_of HT_.out (by kernel_rfl)) (fun _ _ _ h => h) (Or.inl ⟨by rfl, ?_⟩) ?_ ?_
    rotate_left
    · intro w'
      go_simp
      with_reducible rfl
    rotate_left
    · simp only [Act.put, List.setIfInBounds_toArray, List.set_cons_zero, List.set_cons_succ, i64_w, i32_w]
      rfl
    refine pure_ (i := 2) (N := some 29) (v := ?_) (a' := ?_) #[true, true, true, false, false, false, false, false, false, false, false] rfl rfl (any_of HT_.out (by kernel_rfl)) (fun _ _ _ h => h) (Or.inl ⟨by rfl, ?_⟩) ?_ ?_
    rotate_left
    · intro w'
      go_simp
      with_reducible rfl
    rotate_left
    · simp only [Act.put, List.setIfInBounds_toArray, List.set_cons_zero, List.set_cons_succ, i64_w, i32_w]
      rfl
    refine pure_ (i := 4) (N := some 31) (v := ?_) (a' := ?_) #[true, true, true, false, true, false, false, false, false, false, false] rfl rfl (any_of HT_.out (by kernel_rfl)) (fun _ _ _ h => h) (Or.inl ⟨by rfl, ?_⟩) ?_ ?_
    rotate_left
    · intro w'
      go_simp
      with_reducible rfl
    rotate_left
    · simp only [Act.put, List.setIfInBounds_toArray, List.set_cons_zero, List.set_cons_succ, i64_w, i32_w]
      rfl
    refine take_ (i := 5) (N := some 32) (v := ?_) (a' := ?_) #[true, true, true, false, true, true, false, false, false, false, false] rfl rfl (take_ofW HT_.out HW_.out (by kernel_rfl)) (fun _ _ _ h => h) (Or.inl ⟨by rfl, ?_⟩) hHeld ?_ ?_
    rotate_left
    · rintro w' ⟨s0, s1, s2, s3, s4⟩
      go_simp
      with_reducible rfl
    rotate_left
    · simp only [Act.put, List.setIfInBounds_toArray, List.set_cons_zero, List.set_cons_succ, i64_w, i32_w]
      rfl
    refine pure_ (i := 6) (N := some 33) (v := ?_) (a' := ?_) #[true, true, true, false, true, true, true, false, false, false, false] rfl rfl (any_of HT_.out (by kernel_rfl)) (fun _ _ _ h => h) (Or.inl ⟨by rfl, ?_⟩) ?_ ?_
    rotate_left
    · intro w'
      go_simp
      with_reducible rfl
    rotate_left
    · simp only [Act.put, List.setIfInBounds_toArray, List.set_cons_zero, List.set_cons_succ, i64_w, i32_w]
      rfl
    refine pure_ (i := 7) (N := some 34) (v := ?_) (a' := ?_) #[true, true, true, false, true, true, true, true, false, false, false] rfl rfl (any_of HT_.out (by kernel_rfl)) (fun _ _ _ h => h) (Or.inl ⟨by rfl, ?_⟩) ?_ ?_
    rotate_left
    · intro w'
      go_simp
      with_reducible rfl
    rotate_left
    · simp only [Act.put, List.setIfInBounds_toArray, List.set_cons_zero, List.set_cons_succ, i64_w, i32_w]
      rfl
    refine one_ (i := 3) (N := some 30) #[true, true, true, true, true, true, true, true, false, false, false] rfl rfl (one_of HT_.out (by kernel_rfl)) (by decide) (fun K hK => ?_)
    refine goes_ Try.func44 (by kernel_rfl) rfl #[.int .u64 (IntKind.u64.wrap (wrap64 ((wrap64 ((wrap64 (256 * (wrap64 ((wrap64 (256 * (wrap64 ((wrap64 (256 * (wrap64 (wrap64 (a0_1))))) + (wrap64 (a0_2)))))) + (wrap64 (a0_3)))))) + (wrap64 (a0_4)))) + 2147483648)))] (by rfl) rfl rfl (by (try simp only [List.map_toArray, List.map_cons, List.map_nil]); first | done | rfl | (simp only [List.length_drop, List.length_take]; rfl)) ?_
    with_reducible refine (bakeref2_natOf.calls k (IntKind.u64.wrap (wrap64 ((wrap64 ((wrap64 (256 * (wrap64 ((wrap64 (256 * (wrap64 ((wrap64 (256 * (wrap64 (wrap64 (a0_1))))) + (wrap64 (a0_2)))))) + (wrap64 (a0_3)))))) + (wrap64 (a0_4)))) + 2147483648))) t153 _ A8.out).mono ?_
    rintro e w12 ⟨v154, rfl, ho0, hb⟩
    refine ⟨_, rfl, ?_⟩
    have n0_ := Aside0.mk (Kd.R_lower ho0 (below_size (by repeat (first | (with_reducible first | exact HB.out | apply below_alloc | apply pw_below_drewN | apply below_drew1 | refine below_set ?_ GE149.out) | exact HB.out))))
    have n1_ := Aside0.mk (blk_below (g := gb149) (o := .cells #[.int .u8 a0_0, .int .u8 a0_1, .int .u8 a0_2, .int .u8 a0_3, .int .u8 a0_4] 36 (0, 0)) (by (with_reducible repeat (first | refine blk_drewN ?_ _ | refine blk_drew ?_ | refine blk_alloc ?_ _)); exact BK149.out) hb)
    have n2_ := Aside0.mk (below_step (by repeat (first | (with_reducible first | exact HB.out | apply below_alloc | apply pw_below_drewN | apply below_drew1 | refine below_set ?_ GE149.out) | exact HB.out)) hb)
    clear BK149
    clear HB
    have HO155 := n0_
    have BK149 := n1_
    have HB := n2_
    clear n0_ n1_ n2_
    (try clear hb)
    (try clear hb2)
    (try clear hk)
    (try clear hi)
    (try clear ho0)
    refine hK.out _ _ ⟨(blk_cell BK149.out 0).trans rfl, (blk_cell BK149.out 1).trans rfl, (blk_cell BK149.out 2).trans rfl, (blk_cell BK149.out 3).trans rfl, (blk_cell BK149.out 4).trans rfl⟩ (fun hHeld => ?_)
    clear hK K
    refine norm_ (a' := ?_) ?_ ?_
    rotate_left
    · show Act.put _ (some 30) _ = _
      simp only [Act.put, List.setIfInBounds_toArray, List.set_cons_zero, List.set_cons_succ, i64_w, i32_w]
      rfl
    refine pure_ (i := 8) (N := some 2) (v := ?_) (a' := ?_) #[true, true, true, true, true, true, true, true, true, false, false] rfl rfl (any_of HT_.out (by kernel_rfl)) (fun _ _ _ h => h) (Or.inl ⟨by rfl, ?_⟩) ?_ ?_
    rotate_left
    · intro w'
      go_simp
      with_reducible rfl
    rotate_left
    · simp only [Act.put, List.setIfInBounds_toArray, List.set_cons_zero, List.set_cons_succ, i64_w, i32_w]
      rfl
    refine pure_ (i := 9) (N := some 3) (v := ?_) (a' := ?_) #[true, true, true, true, true, true, true, true, true, true, false] rfl rfl (any_of HT_.out (by kernel_rfl)) (fun _ _ _ h => h) (Or.inl ⟨by rfl, ?_⟩) ?_ ?_
    rotate_left
    · intro w'
      go_simp
      with_reducible rfl
    rotate_left
    · simp only [Act.put, List.setIfInBounds_toArray, List.set_cons_zero, List.set_cons_succ, i64_w, i32_w]
      rfl
    refine pure_ (i := 10) (N := some 4) (v := ?_) (a' := ?_) #[true, true, true, true, true, true, true, true, true, true, true] rfl rfl (any_of HT_.out (by kernel_rfl)) (fun _ _ _ h => h) (Or.inl ⟨by rfl, ?_⟩) ?_ ?_
    rotate_left
    · intro w'
      go_simp
      with_reducible rfl
    rotate_left
    · simp only [Act.put, List.setIfInBounds_toArray, List.set_cons_zero, List.set_cons_succ, i64_w, i32_w]
      rfl
    refine done_ (done_of HT_.out (by kernel_rfl)) ?_
    try go_wp2
    go_ret3
    exact ⟨_, by first | rfl | (simp [errW_none, errW_some] <;> rfl) | (simp [*, errW_none, errW_some] <;> rfl), by (with_reducible repeat (first | apply Kd.R_alloc | apply Kd.R_drewN | apply Kd.R_drew)); exact HO155.out, by repeat (first | (with_reducible first | exact HB.out | apply below_alloc | apply pw_below_drewN | apply below_drew1 | refine below_set ?_ GE149.out) | exact HB.out)⟩

/-! ### bakeref2_nat_times: function 35 -/
mutual
def bakeref2_nat_times.l0 : Nat → Int → List Int → Int → List Int → Int → Int → Option (List Int)
  | 0, _, _, _, _, _, _ => none
  | k + 1, x1, x5, x6, x9, x10, x11 => if x11 < x10 then (if 0 ≤ x11 then (if x11 < (x9.length : Int) then (if x5.length < 17592186044416 then (bakeref2_nat_times.l0 k x1 (x5 ++ [Int.tmod (wrap64 (x6 + (wrap64 ((rd x9 x11) * x1)))) 10000]) (wrap64 (Int.tdiv (wrap64 (x6 + (wrap64 ((rd x9 x11) * x1)))) 10000)) x9 x10 (wrap64 (x11 + 1))) else (none)) else (none)) else (none)) else (bakeref2_nat_times.l1 k x1 x5 x6)
def bakeref2_nat_times.l1 : Nat → Int → List Int → Int → Option (List Int)
  | 0, _, _, _ => none
  | k + 1, x1, x5, x6 => if x6 > 0 then (if x5.length < 17592186044416 then (bakeref2_nat_times.l1 k x1 (x5 ++ [Int.tmod x6 10000]) (wrap64 (Int.tdiv x6 10000))) else (none)) else (if x1 = 0 then (some ([] : List Int)) else (some x5))
end
def bakeref2_nat_times.f (k : Nat) (l0 : List Int) (a1 : Int) : Option (List Int) := bakeref2_nat_times.l0 k a1 ([] : List Int) 0 l0 (l0.length : Int) 0
theorem bakeref2_nat_times.mono_l : ∀ k, (∀ y0 y1 y2 y3 y4 y5, LeO (bakeref2_nat_times.l0 k y0 y1 y2 y3 y4 y5) (bakeref2_nat_times.l0 (k + 1) y0 y1 y2 y3 y4 y5)) ∧ (∀ y0 y1 y2, LeO (bakeref2_nat_times.l1 k y0 y1 y2) (bakeref2_nat_times.l1 (k + 1) y0 y1 y2))
  | 0 => ⟨fun _ _ _ _ _ _ r h => by simp [bakeref2_nat_times.l0] at h, fun _ _ _ r h => by simp [bakeref2_nat_times.l1] at h⟩
  | k + 1 => by
    obtain ⟨ih0, ih1⟩ := bakeref2_nat_times.mono_l k
    refine ⟨?_, ?_⟩
    · intro y0 y1 y2 y3 y4 y5
      unfold bakeref2_nat_times.l0
      repeat' first
      | (with_reducible exact ih0 _ _ _ _ _ _)
      | (with_reducible exact ih1 _ _ _)
      | (with_reducible exact LeO.refl _)
      | (with_reducible exact LeO.none _)
      | (with_reducible refine LeO.ite ?_ ?_)
      | (with_reducible refine LeO.bind ?_ (fun _ => ?_))
      | exact ih0 _ _ _ _ _ _
      | exact ih1 _ _ _
      | exact LeO.none _
      | refine LeO.ite ?_ ?_
      | refine LeO.bind ?_ (fun _ => ?_)
    · intro y0 y1 y2
      unfold bakeref2_nat_times.l1
      repeat' first
      | (with_reducible exact ih0 _ _ _ _ _ _)
      | (with_reducible exact ih1 _ _ _)
      | (with_reducible exact LeO.refl _)
      | (with_reducible exact LeO.none _)
      | (with_reducible refine LeO.ite ?_ ?_)
      | (with_reducible refine LeO.bind ?_ (fun _ => ?_))
      | exact ih0 _ _ _ _ _ _
      | exact ih1 _ _ _
      | exact LeO.none _
      | refine LeO.ite ?_ ?_
      | refine LeO.bind ?_ (fun _ => ?_)
theorem bakeref2_nat_times.mono : ∀ a0 a1 k, LeO (bakeref2_nat_times.f k a0 a1) (bakeref2_nat_times.f (k + 1) a0 a1) := by
  intro a0 a1 k
  obtain ⟨ih0, ih1⟩ := bakeref2_nat_times.mono_l k
  unfold bakeref2_nat_times.f
  repeat' first
      | (with_reducible exact ih0 _ _ _ _ _ _)
      | (with_reducible exact ih1 _ _ _)
      | (with_reducible exact LeO.refl _)
      | (with_reducible exact LeO.none _)
      | (with_reducible refine LeO.ite ?_ ?_)
      | (with_reducible refine LeO.bind ?_ (fun _ => ?_))
      | exact ih0 _ _ _ _ _ _
      | exact ih1 _ _ _
      | exact LeO.none _
      | refine LeO.ite ?_ ?_
      | refine LeO.bind ?_ (fun _ => ?_)
set_option maxHeartbeats 8000000 in
set_option maxRecDepth 100000 in
theorem bakeref2_nat_times.calls (k : Nat) (A0 : Option Addr) (c0 : Nat) (l0 : List Int) (a1 : Int) (r : List Int) (w : World) (hr0 : Kd.C (Kd.int .i64) w A0 l0.length l0) (hc0 : l0.length ≤ c0) (h : bakeref2_nat_times.f k l0 a1 = some r) :
    Calls Try.prog 35 #[.slice A0 l0.length c0, .int .i64 a1] w fun e w' => ∃ v0_ : Value, e = .returned (v0_) ∧ Kd.R (Kd.int .i64) 3 w' w.heap.size (fun _ => True) v0_ r ∧ Below w.heap.size w w' := by
  have HR0 := Aside0.mk hr0
  have HC0 := Aside0.mk hc0
  clear hr0 hc0
  have HB := Aside0.mk (Below.refl w.heap.size w)
  have H : (bakeref2_nat_times.l0 k a1 ([] : List Int) 0 l0 (l0.length : Int) 0) = some r := h
  clear h
  have H' := Aside0.mk H
  clear H
  go_enter Try.func35, Try.ntmps35
  go_wp2
  go_loopg [5, 6, 11] k (fun kq v5 v6 v11 w' => ∃ (x5_1 : List Int) (x6_1 : Int) (x11_1 : Int), v6 = .int .i64 x6_1 ∧ v11 = .int .i64 x11_1 ∧ Aside0 (bakeref2_nat_times.l0 kq a1 x5_1 x6_1 l0 (l0.length : Int) x11_1 = some r) ∧ Aside0 (kq ≤ k) ∧ Aside0 (Kd.R (Kd.int .i64) 3 w' w.heap.size (fun _ => True) v5 x5_1) ∧ Aside0 (Below w.heap.size w w'))
  case atStart => exact ⟨(([] : List Int)), (0), (0), (by first | rfl | (simp; done) | (simp [*]; done)), (by first | rfl | (simp; done) | (simp [*]; done)), H', ⟨Nat.le_refl _⟩, ⟨by first | exact Kd.R_nil _ _ _ _ _ | exact Kd.N_nil _ _ _ _ _ | exact Kd.V_nil _ _ _ _ _ | exact Kd.Q_nil _ _ _ _ _ | exact Kd.S_nil _ _ _ _ _⟩, ⟨by repeat (first | (with_reducible first | exact HB.out | apply below_alloc | apply pw_below_drewN | apply below_drew1) | exact HB.out)⟩⟩
  case round =>
    clear H'
    try clear p2
    obtain ⟨x5_1, x6_1, x11_1, rfl, rfl, HA, HK1, HO_5, HB⟩ := hrel
    cases gk with
    | zero => exact absurd HA.out (by simp [bakeref2_nat_times.l0])
    | succ k1 =>
      have H := HA.out
      clear HA
      simp only [bakeref2_nat_times.l0] at H
      by_cases c3 : x11_1 < (l0.length : Int)
      · rw [if_pos c3] at H
        have c3b0 : decide (x11_1 < (l0.length : Int)) = true := decide_eq_true c3
        clear c3
        by_cases c4 : 0 ≤ x11_1
        · rw [if_pos c4] at H
          have c4b0 : decide (0 ≤ x11_1) = true := decide_eq_true c4
          clear c4
          by_cases c5 : x11_1 < (l0.length : Int)
          · rw [if_pos c5] at H
            have c5b0 : decide (x11_1 < (l0.length : Int)) = true := decide_eq_true c5
            clear c5
            by_cases c6 : x5_1.length < 17592186044416
            · rw [if_pos c6] at H
              have LMc6 := Aside0.mk c6
              clear c6
              obtain ⟨y157, hy157⟩ : ∃ y_ : List Int, y_ = (x5_1 ++ [Int.tmod (wrap64 (x6_1 + (wrap64 ((rd l0 x11_1) * a1)))) 10000]) := ⟨_, rfl⟩
              replace H : (bakeref2_nat_times.l0 k1 a1 y157 (wrap64 (Int.tdiv (wrap64 (x6_1 + (wrap64 ((rd l0 x11_1) * a1)))) 10000)) l0 (l0.length : Int) (wrap64 (x11_1 + 1))) = some r := by first | (rw [hy157]; with_reducible exact H) | (have H2_ := (Option.bind_some _ _).symm.trans H; rw [hy157]; with_reducible exact H2_) | (have H2_ := (Option.bind_some _ _).symm.trans H; with_reducible exact H2_) | with_reducible exact H | (rw [hy157]; exact H) | exact H
              have Ny157 := Aside0.mk hy157
              clear hy157
              have H' := Aside0.mk H
              clear H
              have p156 : 0 ≤ (x11_1 : Int) := of_decide_eq_true (by first | (with_reducible assumption) | assumption)
              have q156 : x11_1 < (l0.length : Int) := of_decide_eq_true (by first | (with_reducible assumption) | assumption)
              obtain ⟨ad156, e156, hx156_0⟩ := Kd.at_int HR0.out x11_1 p156 q156
              cases e156
              replace hx156_0 := (HB.out.cell (World.block_lt_of_cell? w _ hx156_0)).trans hx156_0
              replace p156 := eq_true p156
              replace q156 := eq_true q156
              go_wp2_with (first | ((with_reducible refine gate_builtin (b := .append) (xs := #[.tmp 20, .tmp 23]) rfl ?_); at_builtin; refine Kd.R_append (Kd.int .i64) (w0 := w) w.heap.size rfl (.tmp 20) (.tmp 23) 61 3 (.int .i64 0) 8 rfl Try.underlying61 info3 rfl (by decide) (by omega) u5 x5_1 (Int.tmod (wrap64 (x6_1 + (wrap64 ((rd l0 x11_1) * a1)))) 10000) [.int .i64 (Int.tmod (wrap64 (x6_1 + (wrap64 ((rd l0 x11_1) * a1)))) 10000)] (fun _ => True) (fun _ => False) rfl rfl ?aP (fun _ hk => hk.elim) ?aF ?aO ?aB ?aS ?aL ?_; (case aP => exact rfl); (case aB => exact (by repeat (first | (with_reducible first | exact HB.out | apply below_alloc | apply pw_below_drewN | apply below_drew1) | exact HB.out))); (case aF => exact (fun _ _ => trivial)); (case aO => exact (by (with_reducible repeat (first | apply Kd.R_alloc | apply Kd.R_drewN | apply Kd.R_drew)); exact HO_5.out)); (case aS => exact (below_size (by repeat (first | (with_reducible first | exact HB.out | apply below_alloc | apply pw_below_drewN | apply below_drew1) | exact HB.out)))); (case aL => have := LMc6.out; omega); intro v158 w7 ho hb hg hat; rw [← Ny157.out] at ho; have n0_ := Aside0.mk (hb); have n1_ := Aside0.mk (ho); clear HB; clear HO_5; have HB := n0_; have HO159 := n1_; clear n0_ n1_; clear ho hb hg hat))
              go_roundg k1
              case measure => have := HK1.out; omega
              case rel => exact ⟨(y157), (wrap64 (Int.tdiv (wrap64 (x6_1 + (wrap64 ((rd l0 x11_1) * a1)))) 10000)), (wrap64 (x11_1 + 1)), (by first | rfl | (simp; done) | (simp [*]; done)), (by first | rfl | (simp; done) | (simp [*]; done)), H', ⟨by have := HK1.out; omega⟩, ⟨by (with_reducible repeat (first | apply Kd.R_alloc | apply Kd.R_drewN | apply Kd.R_drew)); exact HO159.out⟩, ⟨by repeat (first | (with_reducible first | exact HB.out | apply below_alloc | apply pw_below_drewN | apply below_drew1) | exact HB.out)⟩⟩
            · rw [if_neg c6] at H
              exact absurd H (by simp)
          · rw [if_neg c5] at H
            exact absurd H (by simp)
        · rw [if_neg c4] at H
          exact absurd H (by simp)
      · rw [if_neg c3] at H
        have c3b0 : decide (x11_1 < (l0.length : Int)) = false := decide_eq_false c3
        clear c3
        have H' := Aside0.mk H
        clear H
        go_wp2
        go_loopg [5, 6] k1 (fun kq v5 v6 w' => ∃ (x5_2 : List Int) (x6_2 : Int), v6 = .int .i64 x6_2 ∧ Aside0 (bakeref2_nat_times.l1 kq a1 x5_2 x6_2 = some r) ∧ Aside0 (kq ≤ k1) ∧ Aside0 (Kd.R (Kd.int .i64) 3 w' w.heap.size (fun _ => True) v5 x5_2) ∧ Aside0 (Below w.heap.size w w'))
        case atStart => exact ⟨(x5_1), (x6_1), (by first | rfl | (simp; done) | (simp [*]; done)), H', ⟨Nat.le_refl _⟩, ⟨by (with_reducible repeat (first | apply Kd.R_alloc | apply Kd.R_drewN | apply Kd.R_drew)); exact HO_5.out⟩, ⟨by repeat (first | (with_reducible first | exact HB.out | apply below_alloc | apply pw_below_drewN | apply below_drew1) | exact HB.out)⟩⟩
        case round =>
          clear H'
          try clear p1
          try clear q1
          try clear hx1
          try clear p2
          try clear c3
          try clear c3b0
          try clear c4
          try clear c4b0
          try clear c5
          try clear c5b0
          try clear c6
          try clear p6
          try clear hx156_0
          try clear p156
          try clear p2
          try clear q156
          obtain ⟨x5_2, x6_2, rfl, HA, HK2, HO_5, HB⟩ := hrel
          cases gk with
          | zero => exact absurd HA.out (by simp [bakeref2_nat_times.l1])
          | succ k2 =>
            have H := HA.out
            clear HA
            simp only [bakeref2_nat_times.l1] at H
            by_cases c8 : x6_2 > 0
            · rw [if_pos c8] at H
              have c8b0 : decide (0 < x6_2) = true := decide_eq_true c8
              clear c8
              by_cases c9 : x5_2.length < 17592186044416
              · rw [if_pos c9] at H
                have LMc9 := Aside0.mk c9
                clear c9
                obtain ⟨y160, hy160⟩ : ∃ y_ : List Int, y_ = (x5_2 ++ [Int.tmod x6_2 10000]) := ⟨_, rfl⟩
                replace H : (bakeref2_nat_times.l1 k2 a1 y160 (wrap64 (Int.tdiv x6_2 10000))) = some r := by first | (rw [hy160]; with_reducible exact H) | (have H2_ := (Option.bind_some _ _).symm.trans H; rw [hy160]; with_reducible exact H2_) | (have H2_ := (Option.bind_some _ _).symm.trans H; with_reducible exact H2_) | with_reducible exact H | (rw [hy160]; exact H) | exact H
                have Ny160 := Aside0.mk hy160
                clear hy160
                have H' := Aside0.mk H
                clear H
                go_wp2_with (first | ((with_reducible refine gate_builtin (b := .append) (xs := #[.tmp 32, .tmp 35]) rfl ?_); at_builtin; refine Kd.R_append (Kd.int .i64) (w0 := w) w.heap.size rfl (.tmp 32) (.tmp 35) 61 3 (.int .i64 0) 8 rfl Try.underlying61 info3 rfl (by decide) (by omega) u5 x5_2 (Int.tmod x6_2 10000) [.int .i64 (Int.tmod x6_2 10000)] (fun _ => True) (fun _ => False) rfl rfl ?aP (fun _ hk => hk.elim) ?aF ?aO ?aB ?aS ?aL ?_; (case aP => exact rfl); (case aB => exact (by repeat (first | (with_reducible first | exact HB.out | apply below_alloc | apply pw_below_drewN | apply below_drew1) | exact HB.out))); (case aF => exact (fun _ _ => trivial)); (case aO => exact (by (with_reducible repeat (first | apply Kd.R_alloc | apply Kd.R_drewN | apply Kd.R_drew)); exact HO_5.out)); (case aS => exact (below_size (by repeat (first | (with_reducible first | exact HB.out | apply below_alloc | apply pw_below_drewN | apply below_drew1) | exact HB.out)))); (case aL => have := LMc9.out; omega); intro v161 w10 ho hb hg hat; rw [← Ny160.out] at ho; have n0_ := Aside0.mk (hb); have n1_ := Aside0.mk (ho); clear HB; clear HO_5; have HB := n0_; have HO162 := n1_; clear n0_ n1_; clear ho hb hg hat))
                go_roundg k2
                case measure => have := HK1.out; have := HK2.out; omega
                case rel => exact ⟨(y160), (wrap64 (Int.tdiv x6_2 10000)), (by first | rfl | (simp; done) | (simp [*]; done)), H', ⟨by have := HK1.out; have := HK2.out; omega⟩, ⟨by (with_reducible repeat (first | apply Kd.R_alloc | apply Kd.R_drewN | apply Kd.R_drew)); exact HO162.out⟩, ⟨by repeat (first | (with_reducible first | exact HB.out | apply below_alloc | apply pw_below_drewN | apply below_drew1) | exact HB.out)⟩⟩
              · rw [if_neg c9] at H
                exact absurd H (by simp)
            · rw [if_neg c8] at H
              have c8b0 : decide (0 < x6_2) = false := decide_eq_false c8
              clear c8
              by_cases c11 : a1 = 0
              · rw [if_pos c11] at H
                have c11b0 : (a1 == 0) = true := beq_iff_eq.mpr c11
                have c11b1 : (a1 != 0) = false := bne_eq_false_iff_eq.mpr c11
                clear c11
                obtain rfl := Option.some.inj H
                go_wp2
                go_ret
                exact ⟨_, by first | rfl | (simp [errW_none, errW_some] <;> rfl) | (simp [*, errW_none, errW_some] <;> rfl), by first | exact Kd.R_nil _ _ _ _ _ | exact Kd.N_nil _ _ _ _ _ | exact Kd.V_nil _ _ _ _ _ | exact Kd.Q_nil _ _ _ _ _ | exact Kd.S_nil _ _ _ _ _, by repeat (first | (with_reducible first | exact HB.out | apply below_alloc | apply pw_below_drewN | apply below_drew1) | exact HB.out)⟩
              · rw [if_neg c11] at H
                have c11b0 : (a1 == 0) = false := beq_eq_false_iff_ne.mpr c11
                have c11b1 : (a1 != 0) = true := bne_iff_ne.mpr c11
                obtain rfl := Option.some.inj H
                go_wp2
                go_ret
                exact ⟨_, by first | rfl | (simp [errW_none, errW_some] <;> rfl) | (simp [*, errW_none, errW_some] <;> rfl), by (with_reducible repeat (first | apply Kd.R_alloc | apply Kd.R_drewN | apply Kd.R_drew)); exact HO_5.out, by repeat (first | (with_reducible first | exact HB.out | apply below_alloc | apply pw_below_drewN | apply below_drew1) | exact HB.out)⟩

/-! ### bakeref2_nat_less: function 45 -/
def bakeref2_nat_less.l0 : Nat → List Int → List Int → Int → Option (Bool)
  | 0, _, _, _ => none
  | k + 1, x0, x1, x5 => if x5 ≥ 0 then (if 0 ≤ x5 then (if x5 < (x0.length : Int) then (if x5 < (x1.length : Int) then (if (rd x0 x5) = (rd x1 x5) then (bakeref2_nat_less.l0 k x0 x1 (wrap64 (x5 - 1))) else (some (decide ((rd x0 x5) < (rd x1 x5))))) else (none)) else (none)) else (none)) else (some false)
def bakeref2_nat_less.f (k : Nat) (l0 : List Int) (l1 : List Int) : Option (Bool) := if (l0.length : Int) = (l1.length : Int) then (bakeref2_nat_less.l0 k l0 l1 (wrap64 ((l0.length : Int) - 1))) else (some (decide ((l0.length : Int) < (l1.length : Int))))
theorem bakeref2_nat_less.mono_l : ∀ k, (∀ y0 y1 y2, LeO (bakeref2_nat_less.l0 k y0 y1 y2) (bakeref2_nat_less.l0 (k + 1) y0 y1 y2))
  | 0 => fun _ _ _ r h => by simp [bakeref2_nat_less.l0] at h
  | k + 1 => by
    have ih0 := bakeref2_nat_less.mono_l k
    · intro y0 y1 y2
      unfold bakeref2_nat_less.l0
      repeat' first
      | (with_reducible exact ih0 _ _ _)
      | (with_reducible exact LeO.refl _)
      | (with_reducible exact LeO.none _)
      | (with_reducible refine LeO.ite ?_ ?_)
      | (with_reducible refine LeO.bind ?_ (fun _ => ?_))
      | exact ih0 _ _ _
      | exact LeO.none _
      | refine LeO.ite ?_ ?_
      | refine LeO.bind ?_ (fun _ => ?_)
theorem bakeref2_nat_less.mono : ∀ a0 a1 k, LeO (bakeref2_nat_less.f k a0 a1) (bakeref2_nat_less.f (k + 1) a0 a1) := by
  intro a0 a1 k
  have ih0 := bakeref2_nat_less.mono_l k
  unfold bakeref2_nat_less.f
  repeat' first
      | (with_reducible exact ih0 _ _ _)
      | (with_reducible exact LeO.refl _)
      | (with_reducible exact LeO.none _)
      | (with_reducible refine LeO.ite ?_ ?_)
      | (with_reducible refine LeO.bind ?_ (fun _ => ?_))
      | exact ih0 _ _ _
      | exact LeO.none _
      | refine LeO.ite ?_ ?_
      | refine LeO.bind ?_ (fun _ => ?_)
set_option maxHeartbeats 8000000 in
set_option maxRecDepth 100000 in
theorem bakeref2_nat_less.calls (k : Nat) (A0 : Option Addr) (c0 : Nat) (l0 : List Int) (A1 : Option Addr) (c1 : Nat) (l1 : List Int) (r : Bool) (w : World) (hr0 : Kd.C (Kd.int .i64) w A0 l0.length l0) (hc0 : l0.length ≤ c0) (hr1 : Kd.C (Kd.int .i64) w A1 l1.length l1) (hc1 : l1.length ≤ c1) (h : bakeref2_nat_less.f k l0 l1 = some r) :
    Calls Try.prog 45 #[.slice A0 l0.length c0, .slice A1 l1.length c1] w fun e w' => e = .returned (.bool r) ∧ Drawn0 w w' := by
  have HR0 := Aside0.mk hr0
  have HC0 := Aside0.mk hc0
  clear hr0 hc0
  have HR1 := Aside0.mk hr1
  have HC1 := Aside0.mk hc1
  clear hr1 hc1
  have H : (if (l0.length : Int) = (l1.length : Int) then (bakeref2_nat_less.l0 k l0 l1 (wrap64 ((l0.length : Int) - 1))) else (some (decide ((l0.length : Int) < (l1.length : Int))))) = some r := h
  clear h
  by_cases c3 : (l0.length : Int) = (l1.length : Int)
  · rw [if_pos c3] at H
    have c3b0 : ((l0.length : Int) == (l1.length : Int)) = true := beq_iff_eq.mpr c3
    have c3b1 : ((l0.length : Int) != (l1.length : Int)) = false := bne_eq_false_iff_eq.mpr c3
    have c3b2 : (l0.length == l1.length) = true := by first | simpa using c3 | (simp at c3 ⊢; omega)
    clear c3
    have H' := Aside0.mk H
    clear H
    go_enter Try.func45, Try.ntmps45
    go_wp2
    repeat (go_quiet (fail); try go_wp2)
    go_loopg [5] k (fun kq v5 w' => ∃ (x5_1 : Int), v5 = .int .i64 x5_1 ∧ Aside0 (bakeref2_nat_less.l0 kq l0 l1 x5_1 = some r) ∧ Aside0 (kq ≤ k) ∧ Drawn0 w w')
    case atStart => exact ⟨(wrap64 ((l0.length : Int) - 1)), (by first | rfl | (simp; done) | (simp [*]; done)), H', ⟨Nat.le_refl _⟩, by repeat (first | exact Drawn0.refl _ | apply Drawn0.step)⟩
    case round =>
      clear H'
      try clear c1
      try clear p2
      try clear c3
      try clear c3b0
      try clear c3b1
      try clear c3b2
      obtain ⟨x5_1, rfl, HA, HK1, ⟨m1, rfl⟩⟩ := hrel
      cases gk with
      | zero => exact absurd HA.out (by simp [bakeref2_nat_less.l0])
      | succ k1 =>
        have H := HA.out
        clear HA
        simp only [bakeref2_nat_less.l0] at H
        by_cases c4 : x5_1 ≥ 0
        · rw [if_pos c4] at H
          have c4b0 : decide (0 ≤ x5_1) = true := decide_eq_true c4
          clear c4
          by_cases c5 : 0 ≤ x5_1
          · rw [if_pos c5] at H
            have c5b0 : decide (0 ≤ x5_1) = true := decide_eq_true c5
            clear c5
            by_cases c6 : x5_1 < (l0.length : Int)
            · rw [if_pos c6] at H
              have c6b0 : decide (x5_1 < (l0.length : Int)) = true := decide_eq_true c6
              clear c6
              by_cases c7 : x5_1 < (l1.length : Int)
              · rw [if_pos c7] at H
                have c7b0 : decide (x5_1 < (l1.length : Int)) = true := decide_eq_true c7
                clear c7
                by_cases c8 : (rd l0 x5_1) = (rd l1 x5_1)
                · rw [if_pos c8] at H
                  have c8b0 : ((rd l0 x5_1) == (rd l1 x5_1)) = true := beq_iff_eq.mpr c8
                  have c8b1 : ((rd l0 x5_1) != (rd l1 x5_1)) = false := bne_eq_false_iff_eq.mpr c8
                  clear c8
                  have H' := Aside0.mk H
                  clear H
                  have p163 : 0 ≤ (x5_1 : Int) := of_decide_eq_true (by first | (with_reducible assumption) | assumption)
                  have q163 : x5_1 < (l0.length : Int) := of_decide_eq_true (by first | (with_reducible assumption) | assumption)
                  obtain ⟨ad163, e163, hx163_0⟩ := Kd.at_int HR0.out x5_1 p163 q163
                  cases e163
                  replace p163 := eq_true p163
                  replace q163 := eq_true q163
                  have p164 : 0 ≤ (x5_1 : Int) := of_decide_eq_true (by first | (with_reducible assumption) | assumption)
                  have q164 : x5_1 < (l1.length : Int) := of_decide_eq_true (by first | (with_reducible assumption) | assumption)
                  obtain ⟨ad164, e164, hx164_0⟩ := Kd.at_int HR1.out x5_1 p164 q164
                  cases e164
                  replace p164 := eq_true p164
                  replace q164 := eq_true q164
                  go_wp2
                  repeat (go_quiet (fail); try go_wp2)
                  go_roundg k1
                  case measure => have := HK1.out; omega
                  case rel => exact ⟨(wrap64 (x5_1 - 1)), (by first | rfl | (simp; done) | (simp [*]; done)), H', ⟨by have := HK1.out; omega⟩, by repeat (first | exact Drawn0.refl _ | apply Drawn0.step)⟩
                · rw [if_neg c8] at H
                  have c8b0 : ((rd l0 x5_1) == (rd l1 x5_1)) = false := beq_eq_false_iff_ne.mpr c8
                  have c8b1 : ((rd l0 x5_1) != (rd l1 x5_1)) = true := bne_iff_ne.mpr c8
                  obtain rfl := Option.some.inj H
                  have p163 : 0 ≤ (x5_1 : Int) := of_decide_eq_true (by first | (with_reducible assumption) | assumption)
                  have q163 : x5_1 < (l0.length : Int) := of_decide_eq_true (by first | (with_reducible assumption) | assumption)
                  obtain ⟨ad163, e163, hx163_0⟩ := Kd.at_int HR0.out x5_1 p163 q163
                  cases e163
                  replace p163 := eq_true p163
                  replace q163 := eq_true q163
                  have p164 : 0 ≤ (x5_1 : Int) := of_decide_eq_true (by first | (with_reducible assumption) | assumption)
                  have q164 : x5_1 < (l1.length : Int) := of_decide_eq_true (by first | (with_reducible assumption) | assumption)
                  obtain ⟨ad164, e164, hx164_0⟩ := Kd.at_int HR1.out x5_1 p164 q164
                  cases e164
                  replace p164 := eq_true p164
                  replace q164 := eq_true q164
                  have p165 : 0 ≤ (x5_1 : Int) := of_decide_eq_true (by first | (with_reducible assumption) | assumption)
                  have q165 : x5_1 < (l0.length : Int) := of_decide_eq_true (by first | (with_reducible assumption) | assumption)
                  obtain ⟨ad165, e165, hx165_0⟩ := Kd.at_int HR0.out x5_1 p165 q165
                  obtain rfl : ad163 = ad165 := (by injection e165)
                  replace p165 := eq_true p165
                  replace q165 := eq_true q165
                  have p166 : 0 ≤ (x5_1 : Int) := of_decide_eq_true (by first | (with_reducible assumption) | assumption)
                  have q166 : x5_1 < (l1.length : Int) := of_decide_eq_true (by first | (with_reducible assumption) | assumption)
                  obtain ⟨ad166, e166, hx166_0⟩ := Kd.at_int HR1.out x5_1 p166 q166
                  obtain rfl : ad164 = ad166 := (by injection e166)
                  replace p166 := eq_true p166
                  replace q166 := eq_true q166
                  go_wp2
                  repeat (go_quiet (fail); try go_wp2)
                  go_ret
                  exact ⟨by first | rfl | (simp; done) | (simp [*]; done), by repeat (first | exact Drawn0.refl _ | apply Drawn0.step)⟩
              · rw [if_neg c7] at H
                exact absurd H (by simp)
            · rw [if_neg c6] at H
              exact absurd H (by simp)
          · rw [if_neg c5] at H
            exact absurd H (by simp)
        · rw [if_neg c4] at H
          have c4b0 : decide (0 ≤ x5_1) = false := decide_eq_false c4
          clear c4
          obtain rfl := Option.some.inj H
          go_wp2
          repeat (go_quiet (fail); try go_wp2)
          go_ret
          exact ⟨by first | rfl | (simp; done) | (simp [*]; done), by repeat (first | exact Drawn0.refl _ | apply Drawn0.step)⟩
  · rw [if_neg c3] at H
    have c3b0 : ((l0.length : Int) == (l1.length : Int)) = false := beq_eq_false_iff_ne.mpr c3
    have c3b1 : ((l0.length : Int) != (l1.length : Int)) = true := bne_iff_ne.mpr c3
    have c3b2 : (l0.length == l1.length) = false := by first | simpa using c3 | (simp at c3 ⊢; omega)
    obtain rfl := Option.some.inj H
    go_enter Try.func45, Try.ntmps45
    go_wp2
    repeat (go_quiet (fail); try go_wp2)
    go_ret
    exact ⟨by first | rfl | (simp; done) | (simp [*]; done), by repeat (first | exact Drawn0.refl _ | apply Drawn0.step)⟩

end Go.Proofs.Ytmedmifkeliepaa.PFiveMuls
