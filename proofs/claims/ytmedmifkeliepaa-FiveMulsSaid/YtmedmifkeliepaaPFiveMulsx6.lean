-- Written by this session's own program (wip/mp, over the kit's print) for this claim; Lean checks it.
import Derived.Test.YtmedmifkeliepaaPFiveMulsx0
import Derived.Test.YtmedmifkeliepaaPFiveMulsx4
import Derived.Test.YtmedmifkeliepaaPFiveMulsx5
namespace Go.Proofs.Ytmedmifkeliepaa.PFiveMuls
open Go.RowKit Go.Proofs.YtmedmifkeliepaaW.PrintWords Go.Proofs.YtmedmifkeliepaaW.PrintLast Go.Proofs.YtmedmifkeliepaaW.PrintMore
attribute [local go_sem] max2_int min2_int max_two min_two max_three min_three max_four min_four   -- for this text's walks alone
set_option linter.unusedVariables false
set_option linter.unusedSimpArgs false

/-! ### bakeref2_nearest: function 34 -/
mutual
def bakeref2_nearest.l0 : Nat → Bool → List Int → List Int → Int → Option (Int × Int × Int × Int × Int × Int)
  | 0, _, _, _, _ => none
  | k + 1, x0, x1, x2, x3 => (bakeref2_nat_times.f k x2 2147483648).bind fun t200 => ((bakeref2_nat_less.f k x1 t200).bind fun t203 => (if t203 = true then ((bakeref2_nat_times.f k x1 2).bind fun t204 => (bakeref2_nearest.l0 k x0 t204 x2 (wrap64 (x3 - 1)))) else (bakeref2_nearest.l1 k x0 x1 x2 x3)))
def bakeref2_nearest.l1 : Nat → Bool → List Int → List Int → Int → Option (Int × Int × Int × Int × Int × Int)
  | 0, _, _, _, _ => none
  | k + 1, x0, x1, x2, x3 => (bakeref2_nat_times.f k x2 4294967296).bind fun t207 => ((bakeref2_nat_less.f k x1 t207).bind fun t210 => (if t210 = true then ((bakeref2_nat_quot.f k x1 x2).bind fun bt214 => ((bakeref2_nat_times.f k bt214.2 2).bind fun t218 => ((bakeref2_nat_less.f k x2 t218).bind fun t221 => (if t221 = true then (bakeref2_nearest.j2 k x0 x3 bt214.1 true) else ((bakeref2_nat_less.f k t218 x2).bind fun t222 => (if t222 = true then (bakeref2_nearest.j2 k x0 x3 bt214.1 false) else (bakeref2_nearest.j2 k x0 x3 bt214.1 ((Int.tmod bt214.1 2) == 1)))))))) else ((bakeref2_nat_times.f k x2 2).bind fun t211 => (bakeref2_nearest.l1 k x0 x1 t211 (wrap64 (x3 + 1))))))
def bakeref2_nearest.j2 : Nat → Bool → Int → Int → Bool → Option (Int × Int × Int × Int × Int × Int)
  | 0, _, _, _, _ => none
  | k + 1, x0, x3, x10, x51 => if x51 = true then (bakeref2_nearest.j3 k x0 x3 (wrap64 (x10 + 1))) else (bakeref2_nearest.j3 k x0 x3 x10)
def bakeref2_nearest.j3 : Nat → Bool → Int → Int → Option (Int × Int × Int × Int × Int × Int)
  | 0, _, _, _ => none
  | k + 1, x0, x3, x10 => if x10 = 4294967296 then (bakeref2_nearest.j4 k x0 (wrap64 (x3 + 1)) (wrap64 (Int.tdiv x10 2))) else (bakeref2_nearest.j4 k x0 x3 x10)
def bakeref2_nearest.j4 : Nat → Bool → Int → Int → Option (Int × Int × Int × Int × Int × Int)
  | 0, _, _, _ => none
  | k + 1, x0, x3, x10 => if (wrap64 (x3 + 160)) > 255 then (some (0, 0, 0, 0, 0, 21)) else (if (wrap64 (x3 + 160)) < 1 then (some (0, 0, 0, 0, 0, 0)) else (if x0 = true then (some ((wrap64 (x3 + 160)) % 256, ((wrap64 ((wrap64 (x10 - 2147483648)) + 2147483648)) / 16777216) % 256, ((wrap64 ((wrap64 (x10 - 2147483648)) + 2147483648)) / 65536) % 256, ((wrap64 ((wrap64 (x10 - 2147483648)) + 2147483648)) / 256) % 256, (wrap64 ((wrap64 (x10 - 2147483648)) + 2147483648)) % 256, 0)) else (some ((wrap64 (x3 + 160)) % 256, ((wrap64 (x10 - 2147483648)) / 16777216) % 256, ((wrap64 (x10 - 2147483648)) / 65536) % 256, ((wrap64 (x10 - 2147483648)) / 256) % 256, (wrap64 (x10 - 2147483648)) % 256, 0))))
end
def bakeref2_nearest.f (k : Nat) (a0 : Bool) (l1 : List Int) (l2 : List Int) (a3 : Int) : Option (Int × Int × Int × Int × Int × Int) := bakeref2_nearest.l0 k a0 l1 l2 a3
theorem bakeref2_nearest.mono_l : ∀ k, (∀ y0 y1 y2 y3, LeO (bakeref2_nearest.l0 k y0 y1 y2 y3) (bakeref2_nearest.l0 (k + 1) y0 y1 y2 y3)) ∧ (∀ y0 y1 y2 y3, LeO (bakeref2_nearest.l1 k y0 y1 y2 y3) (bakeref2_nearest.l1 (k + 1) y0 y1 y2 y3)) ∧ (∀ y0 y1 y2 y3, LeO (bakeref2_nearest.j2 k y0 y1 y2 y3) (bakeref2_nearest.j2 (k + 1) y0 y1 y2 y3)) ∧ (∀ y0 y1 y2, LeO (bakeref2_nearest.j3 k y0 y1 y2) (bakeref2_nearest.j3 (k + 1) y0 y1 y2)) ∧ (∀ y0 y1 y2, LeO (bakeref2_nearest.j4 k y0 y1 y2) (bakeref2_nearest.j4 (k + 1) y0 y1 y2))
  | 0 => ⟨fun _ _ _ _ r h => by simp [bakeref2_nearest.l0] at h, fun _ _ _ _ r h => by simp [bakeref2_nearest.l1] at h, fun _ _ _ _ r h => by simp [bakeref2_nearest.j2] at h, fun _ _ _ r h => by simp [bakeref2_nearest.j3] at h, fun _ _ _ r h => by simp [bakeref2_nearest.j4] at h⟩
  | k + 1 => by
    obtain ⟨ih0, ih1, ih2, ih3, ih4⟩ := bakeref2_nearest.mono_l k
    refine ⟨?_, ?_, ?_, ?_, ?_⟩
    · intro y0 y1 y2 y3
      unfold bakeref2_nearest.l0
      repeat' first
      | (with_reducible exact ih0 _ _ _ _)
      | (with_reducible exact ih1 _ _ _ _)
      | (with_reducible exact ih2 _ _ _ _)
      | (with_reducible exact ih3 _ _ _)
      | (with_reducible exact ih4 _ _ _)
      | (with_reducible exact bakeref2_nat_less.mono _ _ _)
      | (with_reducible exact bakeref2_nat_quot.mono _ _ _)
      | (with_reducible exact bakeref2_nat_times.mono _ _ _)
      | (with_reducible exact LeO.refl _)
      | (with_reducible exact LeO.none _)
      | (with_reducible refine LeO.ite ?_ ?_)
      | (with_reducible refine LeO.bind ?_ (fun _ => ?_))
      | exact ih0 _ _ _ _
      | exact ih1 _ _ _ _
      | exact ih2 _ _ _ _
      | exact ih3 _ _ _
      | exact ih4 _ _ _
      | exact bakeref2_nat_less.mono _ _ _
      | exact bakeref2_nat_quot.mono _ _ _
      | exact bakeref2_nat_times.mono _ _ _
      | exact LeO.none _
      | refine LeO.ite ?_ ?_
      | refine LeO.bind ?_ (fun _ => ?_)
    · intro y0 y1 y2 y3
      unfold bakeref2_nearest.l1
      repeat' first
      | (with_reducible exact ih0 _ _ _ _)
      | (with_reducible exact ih1 _ _ _ _)
      | (with_reducible exact ih2 _ _ _ _)
      | (with_reducible exact ih3 _ _ _)
      | (with_reducible exact ih4 _ _ _)
      | (with_reducible exact bakeref2_nat_less.mono _ _ _)
      | (with_reducible exact bakeref2_nat_quot.mono _ _ _)
      | (with_reducible exact bakeref2_nat_times.mono _ _ _)
      | (with_reducible exact LeO.refl _)
      | (with_reducible exact LeO.none _)
      | (with_reducible refine LeO.ite ?_ ?_)
      | (with_reducible refine LeO.bind ?_ (fun _ => ?_))
      | exact ih0 _ _ _ _
      | exact ih1 _ _ _ _
      | exact ih2 _ _ _ _
      | exact ih3 _ _ _
      | exact ih4 _ _ _
      | exact bakeref2_nat_less.mono _ _ _
      | exact bakeref2_nat_quot.mono _ _ _
      | exact bakeref2_nat_times.mono _ _ _
      | exact LeO.none _
      | refine LeO.ite ?_ ?_
      | refine LeO.bind ?_ (fun _ => ?_)
    · intro y0 y1 y2 y3
      unfold bakeref2_nearest.j2
      repeat' first
      | (with_reducible exact ih0 _ _ _ _)
      | (with_reducible exact ih1 _ _ _ _)
      | (with_reducible exact ih2 _ _ _ _)
      | (with_reducible exact ih3 _ _ _)
      | (with_reducible exact ih4 _ _ _)
      | (with_reducible exact bakeref2_nat_less.mono _ _ _)
      | (with_reducible exact bakeref2_nat_quot.mono _ _ _)
      | (with_reducible exact bakeref2_nat_times.mono _ _ _)
      | (with_reducible exact LeO.refl _)
      | (with_reducible exact LeO.none _)
      | (with_reducible refine LeO.ite ?_ ?_)
      | (with_reducible refine LeO.bind ?_ (fun _ => ?_))
      | exact ih0 _ _ _ _
      | exact ih1 _ _ _ _
      | exact ih2 _ _ _ _
      | exact ih3 _ _ _
      | exact ih4 _ _ _
      | exact bakeref2_nat_less.mono _ _ _
      | exact bakeref2_nat_quot.mono _ _ _
      | exact bakeref2_nat_times.mono _ _ _
      | exact LeO.none _
      | refine LeO.ite ?_ ?_
      | refine LeO.bind ?_ (fun _ => ?_)
    · intro y0 y1 y2
      unfold bakeref2_nearest.j3
      repeat' first
      | (with_reducible exact ih0 _ _ _ _)
      | (with_reducible exact ih1 _ _ _ _)
      | (with_reducible exact ih2 _ _ _ _)
      | (with_reducible exact ih3 _ _ _)
      | (with_reducible exact ih4 _ _ _)
      | (with_reducible exact bakeref2_nat_less.mono _ _ _)
      | (with_reducible exact bakeref2_nat_quot.mono _ _ _)
      | (with_reducible exact bakeref2_nat_times.mono _ _ _)
      | (with_reducible exact LeO.refl _)
      | (with_reducible exact LeO.none _)
      | (with_reducible refine LeO.ite ?_ ?_)
      | (with_reducible refine LeO.bind ?_ (fun _ => ?_))
      | exact ih0 _ _ _ _
      | exact ih1 _ _ _ _
      | exact ih2 _ _ _ _
      | exact ih3 _ _ _
      | exact ih4 _ _ _
      | exact bakeref2_nat_less.mono _ _ _
      | exact bakeref2_nat_quot.mono _ _ _
      | exact bakeref2_nat_times.mono _ _ _
      | exact LeO.none _
      | refine LeO.ite ?_ ?_
      | refine LeO.bind ?_ (fun _ => ?_)
    · intro y0 y1 y2
      unfold bakeref2_nearest.j4
      repeat' first
      | (with_reducible exact ih0 _ _ _ _)
      | (with_reducible exact ih1 _ _ _ _)
      | (with_reducible exact ih2 _ _ _ _)
      | (with_reducible exact ih3 _ _ _)
      | (with_reducible exact ih4 _ _ _)
      | (with_reducible exact bakeref2_nat_less.mono _ _ _)
      | (with_reducible exact bakeref2_nat_quot.mono _ _ _)
      | (with_reducible exact bakeref2_nat_times.mono _ _ _)
      | (with_reducible exact LeO.refl _)
      | (with_reducible exact LeO.none _)
      | (with_reducible refine LeO.ite ?_ ?_)
      | (with_reducible refine LeO.bind ?_ (fun _ => ?_))
      | exact ih0 _ _ _ _
      | exact ih1 _ _ _ _
      | exact ih2 _ _ _ _
      | exact ih3 _ _ _
      | exact ih4 _ _ _
      | exact bakeref2_nat_less.mono _ _ _
      | exact bakeref2_nat_quot.mono _ _ _
      | exact bakeref2_nat_times.mono _ _ _
      | exact LeO.none _
      | refine LeO.ite ?_ ?_
      | refine LeO.bind ?_ (fun _ => ?_)
theorem bakeref2_nearest.mono : ∀ a0 a1 a2 a3 k, LeO (bakeref2_nearest.f k a0 a1 a2 a3) (bakeref2_nearest.f (k + 1) a0 a1 a2 a3) := by
  intro a0 a1 a2 a3 k
  obtain ⟨ih0, ih1, ih2, ih3, ih4⟩ := bakeref2_nearest.mono_l k
  unfold bakeref2_nearest.f
  repeat' first
      | (with_reducible exact ih0 _ _ _ _)
      | (with_reducible exact ih1 _ _ _ _)
      | (with_reducible exact ih2 _ _ _ _)
      | (with_reducible exact ih3 _ _ _)
      | (with_reducible exact ih4 _ _ _)
      | (with_reducible exact bakeref2_nat_less.mono _ _ _)
      | (with_reducible exact bakeref2_nat_quot.mono _ _ _)
      | (with_reducible exact bakeref2_nat_times.mono _ _ _)
      | (with_reducible exact LeO.refl _)
      | (with_reducible exact LeO.none _)
      | (with_reducible refine LeO.ite ?_ ?_)
      | (with_reducible refine LeO.bind ?_ (fun _ => ?_))
      | exact ih0 _ _ _ _
      | exact ih1 _ _ _ _
      | exact ih2 _ _ _ _
      | exact ih3 _ _ _
      | exact ih4 _ _ _
      | exact bakeref2_nat_less.mono _ _ _
      | exact bakeref2_nat_quot.mono _ _ _
      | exact bakeref2_nat_times.mono _ _ _
      | exact LeO.none _
      | refine LeO.ite ?_ ?_
      | refine LeO.bind ?_ (fun _ => ?_)
set_option maxHeartbeats 8000000 in
set_option maxRecDepth 100000 in
theorem bakeref2_nearest.calls (k : Nat) (a0 : Bool) (P1_ : Nat → Prop) (A1 : Option Addr) (c1 : Nat) (l1 : List Int) (P2_ : Nat → Prop) (A2 : Option Addr) (c2 : Nat) (l2 : List Int) (a3 : Int) (r1 : Int) (r2 : Int) (r3 : Int) (r4 : Int) (r5 : Int) (r6 : Int) (w : World) (hs1 : Kd.V (Kd.int .i64) 3 w w.heap.size (fun k_ => P1_ k_) (.slice A1 l1.length c1) l1) (hs2 : Kd.V (Kd.int .i64) 3 w w.heap.size (fun k_ => P2_ k_) (.slice A2 l2.length c2) l2) (h : bakeref2_nearest.f k a0 l1 l2 a3 = some (r1, r2, r3, r4, r5, r6)) :
    Calls Try.prog 34 #[.bool a0, .slice A1 l1.length c1, .slice A2 l2.length c2, .int .i64 a3] w fun e w' => e = .returned (.tuple #[.agg #[.int .u8 r1, .int .u8 r2, .int .u8 r3, .int .u8 r4, .int .u8 r5], .int .i64 r6]) ∧ Below w.heap.size w w' := by
  have hu36 := Try.underlying36
  have HO1 := Aside0.mk (show Kd.V (Kd.int .i64) 3 w w.heap.size (fun k_ => ((P1_ k_ ∨ P2_ k_) ∨ w.heap.size ≤ k_)) (.slice A1 l1.length c1) l1 from Kd.V_mono hs1 (fun k_ hk => .inl (.inl hk)))
  have HO2 := Aside0.mk (show Kd.V (Kd.int .i64) 3 w w.heap.size (fun k_ => ((P1_ k_ ∨ P2_ k_) ∨ w.heap.size ≤ k_)) (.slice A2 l2.length c2) l2 from Kd.V_mono hs2 (fun k_ hk => .inl (.inr hk)))
  have HB := Aside0.mk (Below.refl w.heap.size w)
  have H : (bakeref2_nearest.l0 k a0 l1 l2 a3) = some (r1, r2, r3, r4, r5, r6) := h
  clear h
  have H' := Aside0.mk H
  clear H
  go_enter Try.func34, Try.ntmps34
  go_wp2_with (first | ((with_reducible refine gate_dst (N := 8) rfl ?_); refine box_event ?hg (N := 8) ?hd (cs := #[.int .u8 0, .int .u8 0, .int .u8 0, .int .u8 0, .int .u8 0]) (t := 36) ?hr ?_; (case hd => rfl); (case hg => rfl); (case hr => first | (go_simp; done) | (go_simp; rfl)); intro gb199 hg w5 hbox hb; have n0_ := Aside0.mk (Kd.V_below (Kd.V_elderB (by (with_reducible repeat (first | apply Kd.V_alloc | apply Kd.V_drewN | apply Kd.V_drew)); exact HO1.out) gb199 (Nat.le_of_eq hg.symm)) hb); have n1_ := Aside0.mk (Kd.V_below (Kd.V_elderB (by (with_reducible repeat (first | apply Kd.V_alloc | apply Kd.V_drewN | apply Kd.V_drew)); exact HO2.out) gb199 (Nat.le_of_eq hg.symm)) hb); have n2_ := Aside0.mk (below_step (by repeat (first | (with_reducible first | exact HB.out | apply below_alloc | apply pw_below_drewN | apply below_drew1) | exact HB.out)) hb); have n3_ := Aside0.mk (hbox); have n4_ := Aside0.mk ((by rw [hg]; exact (below_size (by repeat (first | (with_reducible first | exact HB.out | apply below_alloc | apply pw_below_drewN | apply below_drew1) | exact HB.out))) : w.heap.size ≤ gb199)); have n5_ := Aside0.mk ((by rw [hg]; exact (below_size (by repeat (first | (with_reducible first | exact HB.out | apply below_alloc | apply pw_below_drewN | apply below_drew1) | exact HB.out))) : w.heap.size ≤ gb199)); clear HO1; clear HO2; clear HB; have HO1 := n0_; have HO2 := n1_; have HB := n2_; have BK199 := n3_; have GW199 := n4_; have GE199 := n5_; clear n0_ n1_ n2_ n3_ n4_ n5_; clear hb hbox hg))
  (try go_simp)
  go_loopg [1, 3] k (fun kq v1 v3 w' => ∃ (x1_1 : List Int) (x3_1 : Int), v3 = .int .i64 x3_1 ∧ Aside0 (bakeref2_nearest.l0 kq a0 x1_1 l2 x3_1 = some (r1, r2, r3, r4, r5, r6)) ∧ Aside0 (kq ≤ k) ∧ Aside0 (Kd.V (Kd.int .i64) 3 w' w.heap.size (fun k_ => ((P1_ k_ ∨ P2_ k_) ∨ w.heap.size ≤ k_) ∧ k_ ≠ gb199) v1 x1_1) ∧ Aside0 (Kd.V (Kd.int .i64) 3 w' w.heap.size (fun k_ => ((P1_ k_ ∨ P2_ k_) ∨ w.heap.size ≤ k_) ∧ k_ ≠ gb199) (.slice A2 l2.length c2) l2) ∧ Aside0 (w'.heap[gb199]? = some (.cells #[.int .u8 0, .int .u8 0, .int .u8 0, .int .u8 0, .int .u8 0] 36 (0, 0))) ∧ Aside0 (Below w.heap.size w w'))
  case atStart => exact ⟨(l1), (a3), (by first | rfl | (simp; done) | (simp [*]; done)), H', ⟨Nat.le_refl _⟩, ⟨by (with_reducible repeat (first | apply Kd.V_alloc | apply Kd.V_drewN | apply Kd.V_drew)); exact HO1.out⟩, ⟨by (with_reducible repeat (first | apply Kd.V_alloc | apply Kd.V_drewN | apply Kd.V_drew)); exact HO2.out⟩, ⟨by (with_reducible repeat (first | refine blk_drewN ?_ _ | refine blk_drew ?_ | refine blk_alloc ?_ _)); exact BK199.out⟩, ⟨by repeat (first | (with_reducible first | exact HB.out | apply below_alloc | apply pw_below_drewN | apply below_drew1 | refine below_set ?_ GE199.out) | exact HB.out)⟩⟩
  case round =>
    clear H'
    try clear c1
    try clear c2
    try clear p2
    try clear c3
    obtain ⟨x1_1, x3_1, rfl, HA, HK1, HO_1, HO_2, BK199, HB⟩ := hrel
    cases gk with
    | zero => exact absurd HA.out (by simp [bakeref2_nearest.l0])
    | succ k1 =>
      have H := HA.out
      clear HA
      simp only [bakeref2_nearest.l0] at H
      replace H := Option.bind_eq_some_iff.mp H
      obtain ⟨t200, A60, H⟩ := H
      replace H : ((bakeref2_nat_less.f k1 x1_1 t200).bind fun t203 => (if t203 = true then ((bakeref2_nat_times.f k1 x1_1 2).bind fun t204 => (bakeref2_nearest.l0 k1 a0 t204 l2 (wrap64 (x3_1 - 1)))) else (bakeref2_nearest.l1 k1 a0 x1_1 l2 x3_1))) = some (r1, r2, r3, r4, r5, r6) := H
      have A6 := Aside0.mk A60
      clear A60
      replace H := Option.bind_eq_some_iff.mp H
      obtain ⟨t203, A70, H⟩ := H
      replace H : (if t203 = true then ((bakeref2_nat_times.f k1 x1_1 2).bind fun t204 => (bakeref2_nearest.l0 k1 a0 t204 l2 (wrap64 (x3_1 - 1)))) else (bakeref2_nearest.l1 k1 a0 x1_1 l2 x3_1)) = some (r1, r2, r3, r4, r5, r6) := H
      have A7 := Aside0.mk A70
      clear A70
      by_cases c8 : t203 = true
      · subst c8
        have H1 : ((bakeref2_nat_times.f k1 x1_1 2).bind fun t204 => (bakeref2_nearest.l0 k1 a0 t204 l2 (wrap64 (x3_1 - 1)))) = some (r1, r2, r3, r4, r5, r6) := by rw [if_pos rfl] at H; exact H
        clear H
        have H := H1
        clear H1
        replace H := Option.bind_eq_some_iff.mp H
        obtain ⟨t204, A90, H⟩ := H
        replace H : (bakeref2_nearest.l0 k1 a0 t204 l2 (wrap64 (x3_1 - 1))) = some (r1, r2, r3, r4, r5, r6) := H
        have A9 := Aside0.mk A90
        clear A90
        have H' := Aside0.mk H
        clear H
        go_wp2_with (first | ((with_reducible refine gate_callee (f := 35) rfl ?_); refine goesL_ (some 15) rfl rfl Try.func35 (by kernel_rfl) rfl #[.slice A2 l2.length c2, .int .i64 2147483648] rfl (by (try simp only [List.map_toArray, List.map_cons, List.map_nil]); first | done | rfl | (simp only [List.length_drop, List.length_take]; rfl)) ?_; (with_reducible refine (bakeref2_nat_times.calls k1 _ _ l2 2147483648 t200 _ ?side1 ?side2 A6.out).mono ?_); (case side1 => repeat (first | exact (Kd.V_reads' HO_2.out).2.2 | (with_reducible refine Kd.C_alloc ?_ _) | (with_reducible refine Kd.C_drewN ?_ _) | (with_reducible refine Kd.C_drew ?_))); (case side2 => exact (Kd.V_reads' HO_2.out).2.1); rintro e w10 ⟨v201, rfl, ho0, hb⟩; refine ⟨_, rfl, ?_⟩; have n0_ := Aside0.mk (Kd.V_elder' (by (with_reducible repeat (first | apply Kd.V_alloc | apply Kd.V_drewN | apply Kd.V_drew)); exact HO_1.out) (Kd.R_base ho0) hb); have n1_ := Aside0.mk (Kd.V_elder' (by (with_reducible repeat (first | apply Kd.V_alloc | apply Kd.V_drewN | apply Kd.V_drew)); exact HO_2.out) (Kd.R_base ho0) hb); have n2_ := Aside0.mk (Kd.R_lower (Kd.R_newM (M := fun k_ => (w.heap.size ≤ k_)) ho0 (below_size (by repeat (first | (with_reducible first | exact HB.out | apply below_alloc | apply pw_below_drewN | apply below_drew1 | refine below_set ?_ GE199.out) | exact HB.out))) (fun k_ h_ => h_)) (below_size (by repeat (first | (with_reducible first | exact HB.out | apply below_alloc | apply pw_below_drewN | apply below_drew1 | refine below_set ?_ GE199.out) | exact HB.out)))); have n3_ := Aside0.mk (blk_below (g := gb199) (o := .cells #[.int .u8 0, .int .u8 0, .int .u8 0, .int .u8 0, .int .u8 0] 36 (0, 0)) (by (with_reducible repeat (first | refine blk_drewN ?_ _ | refine blk_drew ?_ | refine blk_alloc ?_ _)); exact BK199.out) hb); have n4_ := Aside0.mk (below_step (by repeat (first | (with_reducible first | exact HB.out | apply below_alloc | apply pw_below_drewN | apply below_drew1 | refine below_set ?_ GE199.out) | exact HB.out)) hb); clear HO_1; clear HO_2; clear BK199; clear HB; have HO_1 := n0_; have HO_2 := n1_; have HO202 := n2_; have BK199 := n3_; have HB := n4_; clear n0_ n1_ n2_ n3_ n4_; (try clear hb); (try clear hb2); (try clear hk); (try clear hi); (try clear ho0); obtain ⟨Ao11, co11, eo11⟩ := Kd.V_slice HO_1.out; subst eo11; obtain ⟨Ao12, co12, eo12⟩ := Kd.R_slice HO202.out; subst eo12) | ((with_reducible refine gate_callee (f := 45) rfl ?_); refine goesL_ (some 16) rfl rfl Try.func45 (by kernel_rfl) rfl #[.slice Ao11 x1_1.length co11, .slice Ao12 t200.length co12] rfl (by (try simp only [List.map_toArray, List.map_cons, List.map_nil]); first | done | rfl | (simp only [List.length_drop, List.length_take]; rfl)) ?_; (with_reducible refine (bakeref2_nat_less.calls k1 _ _ x1_1 _ _ t200 true _ ?side1 ?side2 ?side3 ?side4 A7.out).mono ?_); (case side1 => repeat (first | exact (Kd.V_reads' HO_1.out).2.2 | (with_reducible refine Kd.C_alloc ?_ _) | (with_reducible refine Kd.C_drewN ?_ _) | (with_reducible refine Kd.C_drew ?_))); (case side2 => exact (Kd.V_reads' HO_1.out).2.1); (case side3 => repeat (first | exact (Kd.R_reads' HO202.out).2.2 | (with_reducible refine Kd.C_alloc ?_ _) | (with_reducible refine Kd.C_drewN ?_ _) | (with_reducible refine Kd.C_drew ?_))); (case side4 => exact (Kd.R_reads' HO202.out).2.1); rintro e w' ⟨rfl, ⟨nd, rfl⟩⟩; refine ⟨_, rfl, ?_⟩) | ((with_reducible refine gate_callee (f := 35) rfl ?_); refine goesL_ (some 18) rfl rfl Try.func35 (by kernel_rfl) rfl #[.slice Ao11 x1_1.length co11, .int .i64 2] rfl (by (try simp only [List.map_toArray, List.map_cons, List.map_nil]); first | done | rfl | (simp only [List.length_drop, List.length_take]; rfl)) ?_; (with_reducible refine (bakeref2_nat_times.calls k1 _ _ x1_1 2 t204 _ ?side1 ?side2 A9.out).mono ?_); (case side1 => repeat (first | exact (Kd.V_reads' HO_1.out).2.2 | (with_reducible refine Kd.C_alloc ?_ _) | (with_reducible refine Kd.C_drewN ?_ _) | (with_reducible refine Kd.C_drew ?_))); (case side2 => exact (Kd.V_reads' HO_1.out).2.1); rintro e w13 ⟨v205, rfl, ho0, hb⟩; refine ⟨_, rfl, ?_⟩; have n0_ := Aside0.mk (Kd.V_elder' (by (with_reducible repeat (first | apply Kd.V_alloc | apply Kd.V_drewN | apply Kd.V_drew)); exact HO_1.out) (Kd.R_base ho0) hb); have n1_ := Aside0.mk (Kd.V_elder' (by (with_reducible repeat (first | apply Kd.V_alloc | apply Kd.V_drewN | apply Kd.V_drew)); exact HO_2.out) (Kd.R_base ho0) hb); have n2_ := Aside0.mk (Kd.R_elder' (by (with_reducible repeat (first | apply Kd.R_alloc | apply Kd.R_drewN | apply Kd.R_drew)); exact HO202.out) (Kd.R_base ho0) hb); have n3_ := Aside0.mk (Kd.R_lower (Kd.R_new' (Kd.R_newM (M := fun k_ => (w.heap.size ≤ k_)) ho0 (below_size (by repeat (first | (with_reducible first | exact HB.out | apply below_alloc | apply pw_below_drewN | apply below_drew1 | refine below_set ?_ GE199.out) | exact HB.out))) (fun k_ h_ => h_)) (Kd.R_lt (by (with_reducible repeat (first | apply Kd.R_alloc | apply Kd.R_drewN | apply Kd.R_drew)); exact HO202.out))) (below_size (by repeat (first | (with_reducible first | exact HB.out | apply below_alloc | apply pw_below_drewN | apply below_drew1 | refine below_set ?_ GE199.out) | exact HB.out)))); have n4_ := Aside0.mk (blk_below (g := gb199) (o := .cells #[.int .u8 0, .int .u8 0, .int .u8 0, .int .u8 0, .int .u8 0] 36 (0, 0)) (by (with_reducible repeat (first | refine blk_drewN ?_ _ | refine blk_drew ?_ | refine blk_alloc ?_ _)); exact BK199.out) hb); have n5_ := Aside0.mk (below_step (by repeat (first | (with_reducible first | exact HB.out | apply below_alloc | apply pw_below_drewN | apply below_drew1 | refine below_set ?_ GE199.out) | exact HB.out)) hb); clear HO_1; clear HO_2; clear HO202; clear BK199; clear HB; have HO_1 := n0_; have HO_2 := n1_; have HO202 := n2_; have HO206 := n3_; have BK199 := n4_; have HB := n5_; clear n0_ n1_ n2_ n3_ n4_ n5_; (try clear hb); (try clear hb2); (try clear hk); (try clear hi); (try clear ho0)))
        go_roundg k1
        case measure => have := HK1.out; omega
        case rel => exact ⟨(t204), (wrap64 (x3_1 - 1)), (by first | rfl | (simp; done) | (simp [*]; done)), H', ⟨by have := HK1.out; omega⟩, ⟨Kd.V_mono (Kd.R_V (by (with_reducible repeat (first | apply Kd.R_alloc | apply Kd.R_drewN | apply Kd.R_drew)); exact Kd.R_types HO206.out BK199.out (by decide))) (fun k_ hk => by first | exact ⟨.inr hk.1.1.1, hk.2⟩ | exact ⟨(.inr (hk.1)), hk.2⟩ | exact (.inr (hk)))⟩, ⟨by (with_reducible repeat (first | apply Kd.V_alloc | apply Kd.V_drewN | apply Kd.V_drew)); exact Kd.V_mono HO_2.out (fun _ hk => ⟨hk.1.1.1, hk.1.1.2⟩)⟩, ⟨by (with_reducible repeat (first | refine blk_drewN ?_ _ | refine blk_drew ?_ | refine blk_alloc ?_ _)); exact BK199.out⟩, ⟨by repeat (first | (with_reducible first | exact HB.out | apply below_alloc | apply pw_below_drewN | apply below_drew1 | refine below_set ?_ GE199.out) | exact HB.out)⟩⟩
      · replace c8 := Bool.eq_false_iff.mpr c8
        subst c8
        have H1 : (bakeref2_nearest.l1 k1 a0 x1_1 l2 x3_1) = some (r1, r2, r3, r4, r5, r6) := by rw [if_neg (show ¬ (false = true) by decide)] at H; exact H
        clear H
        have H := H1
        clear H1
        have H' := Aside0.mk H
        clear H
        go_wp2_with (first | ((with_reducible refine gate_callee (f := 35) rfl ?_); refine goesL_ (some 15) rfl rfl Try.func35 (by kernel_rfl) rfl #[.slice A2 l2.length c2, .int .i64 2147483648] rfl (by (try simp only [List.map_toArray, List.map_cons, List.map_nil]); first | done | rfl | (simp only [List.length_drop, List.length_take]; rfl)) ?_; (with_reducible refine (bakeref2_nat_times.calls k1 _ _ l2 2147483648 t200 _ ?side1 ?side2 A6.out).mono ?_); (case side1 => repeat (first | exact (Kd.V_reads' HO_2.out).2.2 | (with_reducible refine Kd.C_alloc ?_ _) | (with_reducible refine Kd.C_drewN ?_ _) | (with_reducible refine Kd.C_drew ?_))); (case side2 => exact (Kd.V_reads' HO_2.out).2.1); rintro e w14 ⟨v201, rfl, ho0, hb⟩; refine ⟨_, rfl, ?_⟩; have n0_ := Aside0.mk (Kd.V_elder' (by (with_reducible repeat (first | apply Kd.V_alloc | apply Kd.V_drewN | apply Kd.V_drew)); exact HO_1.out) (Kd.R_base ho0) hb); have n1_ := Aside0.mk (Kd.V_elder' (by (with_reducible repeat (first | apply Kd.V_alloc | apply Kd.V_drewN | apply Kd.V_drew)); exact HO_2.out) (Kd.R_base ho0) hb); have n2_ := Aside0.mk (Kd.R_lower (Kd.R_newM (M := fun k_ => (w.heap.size ≤ k_)) ho0 (below_size (by repeat (first | (with_reducible first | exact HB.out | apply below_alloc | apply pw_below_drewN | apply below_drew1 | refine below_set ?_ GE199.out) | exact HB.out))) (fun k_ h_ => h_)) (below_size (by repeat (first | (with_reducible first | exact HB.out | apply below_alloc | apply pw_below_drewN | apply below_drew1 | refine below_set ?_ GE199.out) | exact HB.out)))); have n3_ := Aside0.mk (blk_below (g := gb199) (o := .cells #[.int .u8 0, .int .u8 0, .int .u8 0, .int .u8 0, .int .u8 0] 36 (0, 0)) (by (with_reducible repeat (first | refine blk_drewN ?_ _ | refine blk_drew ?_ | refine blk_alloc ?_ _)); exact BK199.out) hb); have n4_ := Aside0.mk (below_step (by repeat (first | (with_reducible first | exact HB.out | apply below_alloc | apply pw_below_drewN | apply below_drew1 | refine below_set ?_ GE199.out) | exact HB.out)) hb); clear HO_1; clear HO_2; clear BK199; clear HB; have HO_1 := n0_; have HO_2 := n1_; have HO202 := n2_; have BK199 := n3_; have HB := n4_; clear n0_ n1_ n2_ n3_ n4_; (try clear hb); (try clear hb2); (try clear hk); (try clear hi); (try clear ho0); obtain ⟨Ao15, co15, eo15⟩ := Kd.V_slice HO_1.out; subst eo15; obtain ⟨Ao16, co16, eo16⟩ := Kd.R_slice HO202.out; subst eo16) | ((with_reducible refine gate_callee (f := 45) rfl ?_); refine goesL_ (some 16) rfl rfl Try.func45 (by kernel_rfl) rfl #[.slice Ao15 x1_1.length co15, .slice Ao16 t200.length co16] rfl (by (try simp only [List.map_toArray, List.map_cons, List.map_nil]); first | done | rfl | (simp only [List.length_drop, List.length_take]; rfl)) ?_; (with_reducible refine (bakeref2_nat_less.calls k1 _ _ x1_1 _ _ t200 false _ ?side1 ?side2 ?side3 ?side4 A7.out).mono ?_); (case side1 => repeat (first | exact (Kd.V_reads' HO_1.out).2.2 | (with_reducible refine Kd.C_alloc ?_ _) | (with_reducible refine Kd.C_drewN ?_ _) | (with_reducible refine Kd.C_drew ?_))); (case side2 => exact (Kd.V_reads' HO_1.out).2.1); (case side3 => repeat (first | exact (Kd.R_reads' HO202.out).2.2 | (with_reducible refine Kd.C_alloc ?_ _) | (with_reducible refine Kd.C_drewN ?_ _) | (with_reducible refine Kd.C_drew ?_))); (case side4 => exact (Kd.R_reads' HO202.out).2.1); rintro e w' ⟨rfl, ⟨nd, rfl⟩⟩; refine ⟨_, rfl, ?_⟩))
        (try go_simp)
        go_loopg [2, 3] k1 (fun kq v2 v3 w' => ∃ (x2_2 : List Int) (x3_2 : Int), v3 = .int .i64 x3_2 ∧ Aside0 (bakeref2_nearest.l1 kq a0 x1_1 x2_2 x3_2 = some (r1, r2, r3, r4, r5, r6)) ∧ Aside0 (kq ≤ k1) ∧ Aside0 (Kd.V (Kd.int .i64) 3 w' w.heap.size (fun k_ => ((P1_ k_ ∨ P2_ k_) ∨ w.heap.size ≤ k_) ∧ k_ ≠ gb199) (.slice Ao15 x1_1.length co15) x1_1) ∧ Aside0 (Kd.V (Kd.int .i64) 3 w' w.heap.size (fun k_ => ((P1_ k_ ∨ P2_ k_) ∨ w.heap.size ≤ k_) ∧ k_ ≠ gb199) v2 x2_2) ∧ Aside0 (w'.heap[gb199]? = some (.cells #[.int .u8 0, .int .u8 0, .int .u8 0, .int .u8 0, .int .u8 0] 36 (0, 0))) ∧ Aside0 (Below w.heap.size w w'))
        case atStart => exact ⟨(l2), (x3_1), (by first | rfl | (simp; done) | (simp [*]; done)), H', ⟨Nat.le_refl _⟩, ⟨by (with_reducible repeat (first | apply Kd.V_alloc | apply Kd.V_drewN | apply Kd.V_drew)); exact Kd.V_mono HO_1.out (fun _ hk => ⟨hk.1.1, hk.1.2⟩)⟩, ⟨by (with_reducible repeat (first | apply Kd.V_alloc | apply Kd.V_drewN | apply Kd.V_drew)); exact Kd.V_mono HO_2.out (fun _ hk => ⟨hk.1.1, hk.1.2⟩)⟩, ⟨by (with_reducible repeat (first | refine blk_drewN ?_ _ | refine blk_drew ?_ | refine blk_alloc ?_ _)); exact BK199.out⟩, ⟨by repeat (first | (with_reducible first | exact HB.out | apply below_alloc | apply pw_below_drewN | apply below_drew1 | refine below_set ?_ GE199.out) | exact HB.out)⟩⟩
        case round =>
          clear H'
          try clear c1
          try clear c2
          try clear p2
          try clear c3
          try clear c4
          try clear p6
          try clear c8
          try clear p2
          obtain ⟨x2_2, x3_2, rfl, HA, HK2, HO_1, HO_2, BK199, HB⟩ := hrel
          cases gk with
          | zero => exact absurd HA.out (by simp [bakeref2_nearest.l1])
          | succ k2 =>
            have H := HA.out
            clear HA
            simp only [bakeref2_nearest.l1] at H
            replace H := Option.bind_eq_some_iff.mp H
            obtain ⟨t207, A170, H⟩ := H
            replace H : ((bakeref2_nat_less.f k2 x1_1 t207).bind fun t210 => (if t210 = true then ((bakeref2_nat_quot.f k2 x1_1 x2_2).bind fun bt214 => ((bakeref2_nat_times.f k2 bt214.2 2).bind fun t218 => ((bakeref2_nat_less.f k2 x2_2 t218).bind fun t221 => (if t221 = true then (bakeref2_nearest.j2 k2 a0 x3_2 bt214.1 true) else ((bakeref2_nat_less.f k2 t218 x2_2).bind fun t222 => (if t222 = true then (bakeref2_nearest.j2 k2 a0 x3_2 bt214.1 false) else (bakeref2_nearest.j2 k2 a0 x3_2 bt214.1 ((Int.tmod bt214.1 2) == 1)))))))) else ((bakeref2_nat_times.f k2 x2_2 2).bind fun t211 => (bakeref2_nearest.l1 k2 a0 x1_1 t211 (wrap64 (x3_2 + 1)))))) = some (r1, r2, r3, r4, r5, r6) := H
            have A17 := Aside0.mk A170
            clear A170
            replace H := Option.bind_eq_some_iff.mp H
            obtain ⟨t210, A180, H⟩ := H
            replace H : (if t210 = true then ((bakeref2_nat_quot.f k2 x1_1 x2_2).bind fun bt214 => ((bakeref2_nat_times.f k2 bt214.2 2).bind fun t218 => ((bakeref2_nat_less.f k2 x2_2 t218).bind fun t221 => (if t221 = true then (bakeref2_nearest.j2 k2 a0 x3_2 bt214.1 true) else ((bakeref2_nat_less.f k2 t218 x2_2).bind fun t222 => (if t222 = true then (bakeref2_nearest.j2 k2 a0 x3_2 bt214.1 false) else (bakeref2_nearest.j2 k2 a0 x3_2 bt214.1 ((Int.tmod bt214.1 2) == 1)))))))) else ((bakeref2_nat_times.f k2 x2_2 2).bind fun t211 => (bakeref2_nearest.l1 k2 a0 x1_1 t211 (wrap64 (x3_2 + 1))))) = some (r1, r2, r3, r4, r5, r6) := H
            have A18 := Aside0.mk A180
            clear A180
            by_cases c19 : t210 = true
            · subst c19
              have H1 : ((bakeref2_nat_quot.f k2 x1_1 x2_2).bind fun bt214 => ((bakeref2_nat_times.f k2 bt214.2 2).bind fun t218 => ((bakeref2_nat_less.f k2 x2_2 t218).bind fun t221 => (if t221 = true then (bakeref2_nearest.j2 k2 a0 x3_2 bt214.1 true) else ((bakeref2_nat_less.f k2 t218 x2_2).bind fun t222 => (if t222 = true then (bakeref2_nearest.j2 k2 a0 x3_2 bt214.1 false) else (bakeref2_nearest.j2 k2 a0 x3_2 bt214.1 ((Int.tmod bt214.1 2) == 1)))))))) = some (r1, r2, r3, r4, r5, r6) := by rw [if_pos rfl] at H; exact H
              clear H
              have H := H1
              clear H1
              replace H := Option.bind_eq_some_iff.mp H
              obtain ⟨⟨t214, t215⟩, A200, H⟩ := H
              replace H : ((bakeref2_nat_times.f k2 t215 2).bind fun t218 => ((bakeref2_nat_less.f k2 x2_2 t218).bind fun t221 => (if t221 = true then (bakeref2_nearest.j2 k2 a0 x3_2 t214 true) else ((bakeref2_nat_less.f k2 t218 x2_2).bind fun t222 => (if t222 = true then (bakeref2_nearest.j2 k2 a0 x3_2 t214 false) else (bakeref2_nearest.j2 k2 a0 x3_2 t214 ((Int.tmod t214 2) == 1))))))) = some (r1, r2, r3, r4, r5, r6) := H
              have A20 := Aside0.mk A200
              clear A200
              replace H := Option.bind_eq_some_iff.mp H
              obtain ⟨t218, A210, H⟩ := H
              replace H : ((bakeref2_nat_less.f k2 x2_2 t218).bind fun t221 => (if t221 = true then (bakeref2_nearest.j2 k2 a0 x3_2 t214 true) else ((bakeref2_nat_less.f k2 t218 x2_2).bind fun t222 => (if t222 = true then (bakeref2_nearest.j2 k2 a0 x3_2 t214 false) else (bakeref2_nearest.j2 k2 a0 x3_2 t214 ((Int.tmod t214 2) == 1)))))) = some (r1, r2, r3, r4, r5, r6) := H
              have A21 := Aside0.mk A210
              clear A210
              have HC22 := Aside0.mk H
              clear H
              obtain ⟨Ao23, co23, eo23⟩ := Kd.V_slice HO_2.out
              subst eo23
              go_upto_region 7 with (first | ((with_reducible refine gate_callee (f := 35) rfl ?_); refine goesL_ (some 23) rfl rfl Try.func35 (by kernel_rfl) rfl #[.slice Ao23 x2_2.length co23, .int .i64 4294967296] rfl (by (try simp only [List.map_toArray, List.map_cons, List.map_nil]); first | done | rfl | (simp only [List.length_drop, List.length_take]; rfl)) ?_; (with_reducible refine (bakeref2_nat_times.calls k2 _ _ x2_2 4294967296 t207 _ ?side1 ?side2 A17.out).mono ?_); (case side1 => repeat (first | exact (Kd.V_reads' HO_2.out).2.2 | (with_reducible refine Kd.C_alloc ?_ _) | (with_reducible refine Kd.C_drewN ?_ _) | (with_reducible refine Kd.C_drew ?_))); (case side2 => exact (Kd.V_reads' HO_2.out).2.1); rintro e w24 ⟨v208, rfl, ho0, hb⟩; refine ⟨_, rfl, ?_⟩; have n0_ := Aside0.mk (Kd.V_elder' (by (with_reducible repeat (first | apply Kd.V_alloc | apply Kd.V_drewN | apply Kd.V_drew)); exact HO_1.out) (Kd.R_base ho0) hb); have n1_ := Aside0.mk (Kd.V_elder' (by (with_reducible repeat (first | apply Kd.V_alloc | apply Kd.V_drewN | apply Kd.V_drew)); exact HO_2.out) (Kd.R_base ho0) hb); have n2_ := Aside0.mk (Kd.R_lower (Kd.R_newM (M := fun k_ => (w.heap.size ≤ k_)) ho0 (below_size (by repeat (first | (with_reducible first | exact HB.out | apply below_alloc | apply pw_below_drewN | apply below_drew1 | refine below_set ?_ GE199.out) | exact HB.out))) (fun k_ h_ => h_)) (below_size (by repeat (first | (with_reducible first | exact HB.out | apply below_alloc | apply pw_below_drewN | apply below_drew1 | refine below_set ?_ GE199.out) | exact HB.out)))); have n3_ := Aside0.mk (blk_below (g := gb199) (o := .cells #[.int .u8 0, .int .u8 0, .int .u8 0, .int .u8 0, .int .u8 0] 36 (0, 0)) (by (with_reducible repeat (first | refine blk_drewN ?_ _ | refine blk_drew ?_ | refine blk_alloc ?_ _)); exact BK199.out) hb); have n4_ := Aside0.mk (below_step (by repeat (first | (with_reducible first | exact HB.out | apply below_alloc | apply pw_below_drewN | apply below_drew1 | refine below_set ?_ GE199.out) | exact HB.out)) hb); clear HO_1; clear HO_2; clear BK199; clear HB; have HO_1 := n0_; have HO_2 := n1_; have HO209 := n2_; have BK199 := n3_; have HB := n4_; clear n0_ n1_ n2_ n3_ n4_; (try clear hb); (try clear hb2); (try clear hk); (try clear hi); (try clear ho0); obtain ⟨Ao25, co25, eo25⟩ := Kd.R_slice HO209.out; subst eo25) | ((with_reducible refine gate_callee (f := 45) rfl ?_); refine goesL_ (some 24) rfl rfl Try.func45 (by kernel_rfl) rfl #[.slice Ao15 x1_1.length co15, .slice Ao25 t207.length co25] rfl (by (try simp only [List.map_toArray, List.map_cons, List.map_nil]); first | done | rfl | (simp only [List.length_drop, List.length_take]; rfl)) ?_; (with_reducible refine (bakeref2_nat_less.calls k2 _ _ x1_1 _ _ t207 true _ ?side1 ?side2 ?side3 ?side4 A18.out).mono ?_); (case side1 => repeat (first | exact (Kd.V_reads' HO_1.out).2.2 | (with_reducible refine Kd.C_alloc ?_ _) | (with_reducible refine Kd.C_drewN ?_ _) | (with_reducible refine Kd.C_drew ?_))); (case side2 => exact (Kd.V_reads' HO_1.out).2.1); (case side3 => repeat (first | exact (Kd.R_reads' HO209.out).2.2 | (with_reducible refine Kd.C_alloc ?_ _) | (with_reducible refine Kd.C_drewN ?_ _) | (with_reducible refine Kd.C_drew ?_))); (case side4 => exact (Kd.R_reads' HO209.out).2.1); rintro e w' ⟨rfl, ⟨nd, rfl⟩⟩; refine ⟨_, rfl, ?_⟩) | ((with_reducible refine gate_callee (f := 46) rfl ?_); refine goesL_ (some 33) rfl rfl Try.func46 (by kernel_rfl) rfl #[.slice Ao15 x1_1.length co15, .slice Ao23 x2_2.length co23] rfl (by (try simp only [List.map_toArray, List.map_cons, List.map_nil]); first | done | rfl | (simp only [List.length_drop, List.length_take]; rfl)) ?_; (with_reducible refine (bakeref2_nat_quot.calls k2 _ _ x1_1 _ _ x2_2 t214 t215 _ ?side1 ?side2 ?side3 ?side4 A20.out).mono ?_); (case side1 => repeat (first | exact (Kd.V_reads' HO_1.out).2.2 | (with_reducible refine Kd.C_alloc ?_ _) | (with_reducible refine Kd.C_drewN ?_ _) | (with_reducible refine Kd.C_drew ?_))); (case side2 => exact (Kd.V_reads' HO_1.out).2.1); (case side3 => repeat (first | exact (Kd.V_reads' HO_2.out).2.2 | (with_reducible refine Kd.C_alloc ?_ _) | (with_reducible refine Kd.C_drewN ?_ _) | (with_reducible refine Kd.C_drew ?_))); (case side4 => exact (Kd.V_reads' HO_2.out).2.1); rintro e w26 ⟨v216, rfl, ho0, hb⟩; refine ⟨_, rfl, ?_⟩; have n0_ := Aside0.mk (Kd.V_elder' (by (with_reducible repeat (first | apply Kd.V_alloc | apply Kd.V_drewN | apply Kd.V_drew)); exact HO_1.out) (Kd.R_base ho0) hb); have n1_ := Aside0.mk (Kd.V_elder' (by (with_reducible repeat (first | apply Kd.V_alloc | apply Kd.V_drewN | apply Kd.V_drew)); exact HO_2.out) (Kd.R_base ho0) hb); have n2_ := Aside0.mk (Kd.R_elder' (by (with_reducible repeat (first | apply Kd.R_alloc | apply Kd.R_drewN | apply Kd.R_drew)); exact HO209.out) (Kd.R_base ho0) hb); have n3_ := Aside0.mk (Kd.R_lower (Kd.R_new' (Kd.R_newM (M := fun k_ => (w.heap.size ≤ k_)) ho0 (below_size (by repeat (first | (with_reducible first | exact HB.out | apply below_alloc | apply pw_below_drewN | apply below_drew1 | refine below_set ?_ GE199.out) | exact HB.out))) (fun k_ h_ => h_)) (Kd.R_lt (by (with_reducible repeat (first | apply Kd.R_alloc | apply Kd.R_drewN | apply Kd.R_drew)); exact HO209.out))) (below_size (by repeat (first | (with_reducible first | exact HB.out | apply below_alloc | apply pw_below_drewN | apply below_drew1 | refine below_set ?_ GE199.out) | exact HB.out)))); have n4_ := Aside0.mk (blk_below (g := gb199) (o := .cells #[.int .u8 0, .int .u8 0, .int .u8 0, .int .u8 0, .int .u8 0] 36 (0, 0)) (by (with_reducible repeat (first | refine blk_drewN ?_ _ | refine blk_drew ?_ | refine blk_alloc ?_ _)); exact BK199.out) hb); have n5_ := Aside0.mk (below_step (by repeat (first | (with_reducible first | exact HB.out | apply below_alloc | apply pw_below_drewN | apply below_drew1 | refine below_set ?_ GE199.out) | exact HB.out)) hb); clear HO_1; clear HO_2; clear HO209; clear BK199; clear HB; have HO_1 := n0_; have HO_2 := n1_; have HO209 := n2_; have HO217 := n3_; have BK199 := n4_; have HB := n5_; clear n0_ n1_ n2_ n3_ n4_ n5_; (try clear hb); (try clear hb2); (try clear hk); (try clear hi); (try clear ho0); obtain ⟨Ao27, co27, eo27⟩ := Kd.R_slice HO217.out; subst eo27) | ((with_reducible refine gate_callee (f := 35) rfl ?_); refine goesL_ (some 37) rfl rfl Try.func35 (by kernel_rfl) rfl #[.slice Ao27 t215.length co27, .int .i64 2] rfl (by (try simp only [List.map_toArray, List.map_cons, List.map_nil]); first | done | rfl | (simp only [List.length_drop, List.length_take]; rfl)) ?_; (with_reducible refine (bakeref2_nat_times.calls k2 _ _ t215 2 t218 _ ?side1 ?side2 A21.out).mono ?_); (case side1 => repeat (first | exact (Kd.R_reads' HO217.out).2.2 | (with_reducible refine Kd.C_alloc ?_ _) | (with_reducible refine Kd.C_drewN ?_ _) | (with_reducible refine Kd.C_drew ?_))); (case side2 => exact (Kd.R_reads' HO217.out).2.1); rintro e w28 ⟨v219, rfl, ho0, hb⟩; refine ⟨_, rfl, ?_⟩; have n0_ := Aside0.mk (Kd.V_elder' (by (with_reducible repeat (first | apply Kd.V_alloc | apply Kd.V_drewN | apply Kd.V_drew)); exact HO_1.out) (Kd.R_base ho0) hb); have n1_ := Aside0.mk (Kd.V_elder' (by (with_reducible repeat (first | apply Kd.V_alloc | apply Kd.V_drewN | apply Kd.V_drew)); exact HO_2.out) (Kd.R_base ho0) hb); have n2_ := Aside0.mk (Kd.R_elder' (by (with_reducible repeat (first | apply Kd.R_alloc | apply Kd.R_drewN | apply Kd.R_drew)); exact HO209.out) (Kd.R_base ho0) hb); have n3_ := Aside0.mk (Kd.R_elder' (by (with_reducible repeat (first | apply Kd.R_alloc | apply Kd.R_drewN | apply Kd.R_drew)); exact HO217.out) (Kd.R_base ho0) hb); have n4_ := Aside0.mk (Kd.R_lower (Kd.R_new' (Kd.R_new' (Kd.R_newM (M := fun k_ => (w.heap.size ≤ k_)) ho0 (below_size (by repeat (first | (with_reducible first | exact HB.out | apply below_alloc | apply pw_below_drewN | apply below_drew1 | refine below_set ?_ GE199.out) | exact HB.out))) (fun k_ h_ => h_)) (Kd.R_lt (by (with_reducible repeat (first | apply Kd.R_alloc | apply Kd.R_drewN | apply Kd.R_drew)); exact HO209.out))) (Kd.R_lt (by (with_reducible repeat (first | apply Kd.R_alloc | apply Kd.R_drewN | apply Kd.R_drew)); exact HO217.out))) (below_size (by repeat (first | (with_reducible first | exact HB.out | apply below_alloc | apply pw_below_drewN | apply below_drew1 | refine below_set ?_ GE199.out) | exact HB.out)))); have n5_ := Aside0.mk (blk_below (g := gb199) (o := .cells #[.int .u8 0, .int .u8 0, .int .u8 0, .int .u8 0, .int .u8 0] 36 (0, 0)) (by (with_reducible repeat (first | refine blk_drewN ?_ _ | refine blk_drew ?_ | refine blk_alloc ?_ _)); exact BK199.out) hb); have n6_ := Aside0.mk (below_step (by repeat (first | (with_reducible first | exact HB.out | apply below_alloc | apply pw_below_drewN | apply below_drew1 | refine below_set ?_ GE199.out) | exact HB.out)) hb); clear HO_1; clear HO_2; clear HO209; clear HO217; clear BK199; clear HB; have HO_1 := n0_; have HO_2 := n1_; have HO209 := n2_; have HO217 := n3_; have HO220 := n4_; have BK199 := n5_; have HB := n6_; clear n0_ n1_ n2_ n3_ n4_ n5_ n6_; (try clear hb); (try clear hb2); (try clear hk); (try clear hi); (try clear ho0)))
              (try simp only [Act.put, List.setIfInBounds_toArray, List.set_cons_zero, List.set_cons_succ])
              go_cut [51] (fun v51 wc => ∃ (kq : Nat) (x51_21 : Bool), v51 = .bool x51_21 ∧ Aside0 (bakeref2_nearest.j2 kq a0 x3_2 t214 x51_21 = some (r1, r2, r3, r4, r5, r6)) ∧ Aside0 (kq ≤ k2) ∧ Aside0 (wc.heap[gb199]? = some (.cells #[.int .u8 0, .int .u8 0, .int .u8 0, .int .u8 0, .int .u8 0] 36 (0, 0))) ∧ Aside0 (Below w.heap.size w wc))
              case first =>
                have H := HC22.out
                clear HC22
                replace H := Option.bind_eq_some_iff.mp H
                obtain ⟨t221, A290, H⟩ := H
                replace H : (if t221 = true then (bakeref2_nearest.j2 k2 a0 x3_2 t214 true) else ((bakeref2_nat_less.f k2 t218 x2_2).bind fun t222 => (if t222 = true then (bakeref2_nearest.j2 k2 a0 x3_2 t214 false) else (bakeref2_nearest.j2 k2 a0 x3_2 t214 ((Int.tmod t214 2) == 1))))) = some (r1, r2, r3, r4, r5, r6) := H
                have A29 := Aside0.mk A290
                clear A290
                by_cases c30 : t221 = true
                · subst c30
                  have H1 : (bakeref2_nearest.j2 k2 a0 x3_2 t214 true) = some (r1, r2, r3, r4, r5, r6) := by rw [if_pos rfl] at H; exact H
                  clear H
                  have H := H1
                  clear H1
                  have H' := Aside0.mk H
                  clear H
                  obtain ⟨Ao31, co31, eo31⟩ := Kd.R_slice HO220.out
                  subst eo31
                  go_wp2_with (first | ((with_reducible refine gate_callee (f := 45) rfl ?_); refine goesL_ (some 40) rfl rfl Try.func45 (by kernel_rfl) rfl #[.slice Ao23 x2_2.length co23, .slice Ao31 t218.length co31] rfl (by (try simp only [List.map_toArray, List.map_cons, List.map_nil]); first | done | rfl | (simp only [List.length_drop, List.length_take]; rfl)) ?_; (with_reducible refine (bakeref2_nat_less.calls k2 _ _ x2_2 _ _ t218 true _ ?side1 ?side2 ?side3 ?side4 A29.out).mono ?_); (case side1 => repeat (first | exact (Kd.V_reads' HO_2.out).2.2 | (with_reducible refine Kd.C_alloc ?_ _) | (with_reducible refine Kd.C_drewN ?_ _) | (with_reducible refine Kd.C_drew ?_))); (case side2 => exact (Kd.V_reads' HO_2.out).2.1); (case side3 => repeat (first | exact (Kd.R_reads' HO220.out).2.2 | (with_reducible refine Kd.C_alloc ?_ _) | (with_reducible refine Kd.C_drewN ?_ _) | (with_reducible refine Kd.C_drew ?_))); (case side4 => exact (Kd.R_reads' HO220.out).2.1); rintro e w' ⟨rfl, ⟨nd, rfl⟩⟩; refine ⟨_, rfl, ?_⟩))
                  go_meet
                  case rel => exact ⟨_, (true), (by first | rfl | (simp; done) | (simp [*]; done)), H', ⟨by have := HK1.out; have := HK2.out; first | omega | exact Nat.le_refl _⟩, ⟨by (with_reducible repeat (first | refine blk_drewN ?_ _ | refine blk_drew ?_ | refine blk_alloc ?_ _)); exact BK199.out⟩, ⟨by repeat (first | (with_reducible first | exact HB.out | apply below_alloc | apply pw_below_drewN | apply below_drew1 | refine below_set ?_ GE199.out) | exact HB.out)⟩⟩
                · replace c30 := Bool.eq_false_iff.mpr c30
                  subst c30
                  have H1 : ((bakeref2_nat_less.f k2 t218 x2_2).bind fun t222 => (if t222 = true then (bakeref2_nearest.j2 k2 a0 x3_2 t214 false) else (bakeref2_nearest.j2 k2 a0 x3_2 t214 ((Int.tmod t214 2) == 1)))) = some (r1, r2, r3, r4, r5, r6) := by rw [if_neg (show ¬ (false = true) by decide)] at H; exact H
                  clear H
                  have H := H1
                  clear H1
                  replace H := Option.bind_eq_some_iff.mp H
                  obtain ⟨t222, A320, H⟩ := H
                  replace H : (if t222 = true then (bakeref2_nearest.j2 k2 a0 x3_2 t214 false) else (bakeref2_nearest.j2 k2 a0 x3_2 t214 ((Int.tmod t214 2) == 1))) = some (r1, r2, r3, r4, r5, r6) := H
                  have A32 := Aside0.mk A320
                  clear A320
                  by_cases c33 : t222 = true
                  · subst c33
                    have H1 : (bakeref2_nearest.j2 k2 a0 x3_2 t214 false) = some (r1, r2, r3, r4, r5, r6) := by rw [if_pos rfl] at H; exact H
                    clear H
                    have H := H1
                    clear H1
                    have H' := Aside0.mk H
                    clear H
                    obtain ⟨Ao34, co34, eo34⟩ := Kd.R_slice HO220.out
                    subst eo34
                    go_wp2_with (first | ((with_reducible refine gate_callee (f := 45) rfl ?_); refine goesL_ (some 40) rfl rfl Try.func45 (by kernel_rfl) rfl #[.slice Ao23 x2_2.length co23, .slice Ao34 t218.length co34] rfl (by (try simp only [List.map_toArray, List.map_cons, List.map_nil]); first | done | rfl | (simp only [List.length_drop, List.length_take]; rfl)) ?_; (with_reducible refine (bakeref2_nat_less.calls k2 _ _ x2_2 _ _ t218 false _ ?side1 ?side2 ?side3 ?side4 A29.out).mono ?_); (case side1 => repeat (first | exact (Kd.V_reads' HO_2.out).2.2 | (with_reducible refine Kd.C_alloc ?_ _) | (with_reducible refine Kd.C_drewN ?_ _) | (with_reducible refine Kd.C_drew ?_))); (case side2 => exact (Kd.V_reads' HO_2.out).2.1); (case side3 => repeat (first | exact (Kd.R_reads' HO220.out).2.2 | (with_reducible refine Kd.C_alloc ?_ _) | (with_reducible refine Kd.C_drewN ?_ _) | (with_reducible refine Kd.C_drew ?_))); (case side4 => exact (Kd.R_reads' HO220.out).2.1); rintro e w' ⟨rfl, ⟨nd, rfl⟩⟩; refine ⟨_, rfl, ?_⟩) | (go_at_call 45; (with_reducible refine (bakeref2_nat_less.calls k2 _ _ t218 _ _ x2_2 true _ ?side1 ?side2 ?side3 ?side4 A32.out).mono ?_); (case side1 => repeat (first | exact (Kd.R_reads' HO220.out).2.2 | (with_reducible refine Kd.C_alloc ?_ _) | (with_reducible refine Kd.C_drewN ?_ _) | (with_reducible refine Kd.C_drew ?_))); (case side2 => exact (Kd.R_reads' HO220.out).2.1); (case side3 => repeat (first | exact (Kd.V_reads' HO_2.out).2.2 | (with_reducible refine Kd.C_alloc ?_ _) | (with_reducible refine Kd.C_drewN ?_ _) | (with_reducible refine Kd.C_drew ?_))); (case side4 => exact (Kd.V_reads' HO_2.out).2.1); rintro e w' ⟨rfl, ⟨nd, rfl⟩⟩))
                    go_meet
                    case rel => exact ⟨_, (false), (by first | rfl | (simp; done) | (simp [*]; done)), H', ⟨by have := HK1.out; have := HK2.out; first | omega | exact Nat.le_refl _⟩, ⟨by (with_reducible repeat (first | refine blk_drewN ?_ _ | refine blk_drew ?_ | refine blk_alloc ?_ _)); exact BK199.out⟩, ⟨by repeat (first | (with_reducible first | exact HB.out | apply below_alloc | apply pw_below_drewN | apply below_drew1 | refine below_set ?_ GE199.out) | exact HB.out)⟩⟩
                  · replace c33 := Bool.eq_false_iff.mpr c33
                    subst c33
                    have H1 : (bakeref2_nearest.j2 k2 a0 x3_2 t214 ((Int.tmod t214 2) == 1)) = some (r1, r2, r3, r4, r5, r6) := by rw [if_neg (show ¬ (false = true) by decide)] at H; exact H
                    clear H
                    have H := H1
                    clear H1
                    have H' := Aside0.mk H
                    clear H
                    obtain ⟨Ao35, co35, eo35⟩ := Kd.R_slice HO220.out
                    subst eo35
                    go_wp2_with (first | ((with_reducible refine gate_callee (f := 45) rfl ?_); refine goesL_ (some 40) rfl rfl Try.func45 (by kernel_rfl) rfl #[.slice Ao23 x2_2.length co23, .slice Ao35 t218.length co35] rfl (by (try simp only [List.map_toArray, List.map_cons, List.map_nil]); first | done | rfl | (simp only [List.length_drop, List.length_take]; rfl)) ?_; (with_reducible refine (bakeref2_nat_less.calls k2 _ _ x2_2 _ _ t218 false _ ?side1 ?side2 ?side3 ?side4 A29.out).mono ?_); (case side1 => repeat (first | exact (Kd.V_reads' HO_2.out).2.2 | (with_reducible refine Kd.C_alloc ?_ _) | (with_reducible refine Kd.C_drewN ?_ _) | (with_reducible refine Kd.C_drew ?_))); (case side2 => exact (Kd.V_reads' HO_2.out).2.1); (case side3 => repeat (first | exact (Kd.R_reads' HO220.out).2.2 | (with_reducible refine Kd.C_alloc ?_ _) | (with_reducible refine Kd.C_drewN ?_ _) | (with_reducible refine Kd.C_drew ?_))); (case side4 => exact (Kd.R_reads' HO220.out).2.1); rintro e w' ⟨rfl, ⟨nd, rfl⟩⟩; refine ⟨_, rfl, ?_⟩) | (go_at_call 45; (with_reducible refine (bakeref2_nat_less.calls k2 _ _ t218 _ _ x2_2 false _ ?side1 ?side2 ?side3 ?side4 A32.out).mono ?_); (case side1 => repeat (first | exact (Kd.R_reads' HO220.out).2.2 | (with_reducible refine Kd.C_alloc ?_ _) | (with_reducible refine Kd.C_drewN ?_ _) | (with_reducible refine Kd.C_drew ?_))); (case side2 => exact (Kd.R_reads' HO220.out).2.1); (case side3 => repeat (first | exact (Kd.V_reads' HO_2.out).2.2 | (with_reducible refine Kd.C_alloc ?_ _) | (with_reducible refine Kd.C_drewN ?_ _) | (with_reducible refine Kd.C_drew ?_))); (case side4 => exact (Kd.V_reads' HO_2.out).2.1); rintro e w' ⟨rfl, ⟨nd, rfl⟩⟩))
                    go_meet
                    case rel => exact ⟨_, (((Int.tmod t214 2) == 1)), (by first | rfl | (simp; done) | (simp [*]; done)), H', ⟨by have := HK1.out; have := HK2.out; first | omega | exact Nat.le_refl _⟩, ⟨by (with_reducible repeat (first | refine blk_drewN ?_ _ | refine blk_drew ?_ | refine blk_alloc ?_ _)); exact BK199.out⟩, ⟨by repeat (first | (with_reducible first | exact HB.out | apply below_alloc | apply pw_below_drewN | apply below_drew1 | refine below_set ?_ GE199.out) | exact HB.out)⟩⟩
              case rest =>
                clear HC22
                try clear c1
                try clear c2
                try clear p2
                try clear c3
                try clear c4
                try clear p6
                try clear c8
                try clear c19
                try clear c30
                try clear c33
                try clear c34
                try clear c35
                try clear p2
                try clear p6
                obtain ⟨kq, x51_21, rfl, HA, HJ21, BK199, HB⟩ := hcut
                cases kq with
                | zero => exact absurd HA.out (by simp [bakeref2_nearest.j2])
                | succ kj21 =>
                  have H := HA.out
                  clear HA
                  simp only [bakeref2_nearest.j2] at H
                  have HC36 := Aside0.mk H
                  clear H
                  go_upto_if 51 with (fail)
                  go_cut [10] (fun v10 wc => ∃ (kq : Nat) (x10_35 : Int), v10 = .int .i64 x10_35 ∧ Aside0 (bakeref2_nearest.j3 kq a0 x3_2 x10_35 = some (r1, r2, r3, r4, r5, r6)) ∧ Aside0 (kq ≤ kj21) ∧ Aside0 (wc.heap[gb199]? = some (.cells #[.int .u8 0, .int .u8 0, .int .u8 0, .int .u8 0, .int .u8 0] 36 (0, 0))) ∧ Aside0 (Below w.heap.size w wc))
                  case first =>
                    have H := HC36.out
                    clear HC36
                    by_cases c37 : x51_21 = true
                    · subst c37
                      have H1 : (bakeref2_nearest.j3 kj21 a0 x3_2 (wrap64 (t214 + 1))) = some (r1, r2, r3, r4, r5, r6) := by rw [if_pos rfl] at H; exact H
                      clear H
                      have H := H1
                      clear H1
                      have H' := Aside0.mk H
                      clear H
                      go_wp2
                      go_meet
                      case rel => exact ⟨_, (wrap64 (t214 + 1)), (by first | rfl | (simp; done) | (simp [*]; done)), H', ⟨by have := HK1.out; have := HK2.out; have := HJ21.out; first | omega | exact Nat.le_refl _⟩, ⟨by (with_reducible repeat (first | refine blk_drewN ?_ _ | refine blk_drew ?_ | refine blk_alloc ?_ _)); exact BK199.out⟩, ⟨by repeat (first | (with_reducible first | exact HB.out | apply below_alloc | apply pw_below_drewN | apply below_drew1 | refine below_set ?_ GE199.out) | exact HB.out)⟩⟩
                    · replace c37 := Bool.eq_false_iff.mpr c37
                      subst c37
                      have H1 : (bakeref2_nearest.j3 kj21 a0 x3_2 t214) = some (r1, r2, r3, r4, r5, r6) := by rw [if_neg (show ¬ (false = true) by decide)] at H; exact H
                      clear H
                      have H := H1
                      clear H1
                      have H' := Aside0.mk H
                      clear H
                      go_wp2
                      go_meet
                      case rel => exact ⟨_, (t214), (by first | rfl | (simp; done) | (simp [*]; done)), H', ⟨by have := HK1.out; have := HK2.out; have := HJ21.out; first | omega | exact Nat.le_refl _⟩, ⟨by (with_reducible repeat (first | refine blk_drewN ?_ _ | refine blk_drew ?_ | refine blk_alloc ?_ _)); exact BK199.out⟩, ⟨by repeat (first | (with_reducible first | exact HB.out | apply below_alloc | apply pw_below_drewN | apply below_drew1 | refine below_set ?_ GE199.out) | exact HB.out)⟩⟩
                  case rest =>
                    clear HC36
                    try clear c1
                    try clear c2
                    try clear p2
                    try clear c3
                    try clear c4
                    try clear p6
                    try clear c8
                    try clear c19
                    try clear c30
                    try clear c33
                    try clear c34
                    try clear c35
                    try clear c37
                    try clear p2
                    try clear p6
                    obtain ⟨kq, x10_35, rfl, HA, HJ35, BK199, HB⟩ := hcut
                    cases kq with
                    | zero => exact absurd HA.out (by simp [bakeref2_nearest.j3])
                    | succ kj35 =>
                      have H := HA.out
                      clear HA
                      simp only [bakeref2_nearest.j3] at H
                      have HC38 := Aside0.mk H
                      clear H
                      go_upto_if 55 with (fail)
                      go_cut [3, 10] (fun v3 v10 wc => ∃ (kq : Nat) (x3_37 : Int) (x10_37 : Int), v3 = .int .i64 x3_37 ∧ v10 = .int .i64 x10_37 ∧ Aside0 (bakeref2_nearest.j4 kq a0 x3_37 x10_37 = some (r1, r2, r3, r4, r5, r6)) ∧ Aside0 (kq ≤ kj35) ∧ Aside0 (wc.heap[gb199]? = some (.cells #[.int .u8 0, .int .u8 0, .int .u8 0, .int .u8 0, .int .u8 0] 36 (0, 0))) ∧ Aside0 (Below w.heap.size w wc))
                      case first =>
                        have H := HC38.out
                        clear HC38
                        by_cases c39 : x10_35 = 4294967296
                        · rw [if_pos c39] at H
                          have c39b0 : (x10_35 == 4294967296) = true := beq_iff_eq.mpr c39
                          have c39b1 : (x10_35 != 4294967296) = false := bne_eq_false_iff_eq.mpr c39
                          clear c39
                          (first | rw [c39b0] | (simp only [i64_w, i32_w]; rw [c39b0]) | skip)
                          have H' := Aside0.mk H
                          clear H
                          go_wp2
                          go_meet
                          case rel => exact ⟨_, (wrap64 (x3_2 + 1)), (wrap64 (Int.tdiv x10_35 2)), (by first | rfl | (simp; done) | (simp [*]; done)), (by first | rfl | (simp; done) | (simp [*]; done)), H', ⟨by have := HK1.out; have := HK2.out; have := HJ21.out; have := HJ35.out; first | omega | exact Nat.le_refl _⟩, ⟨by (with_reducible repeat (first | refine blk_drewN ?_ _ | refine blk_drew ?_ | refine blk_alloc ?_ _)); exact BK199.out⟩, ⟨by repeat (first | (with_reducible first | exact HB.out | apply below_alloc | apply pw_below_drewN | apply below_drew1 | refine below_set ?_ GE199.out) | exact HB.out)⟩⟩
                        · rw [if_neg c39] at H
                          have c39b0 : (x10_35 == 4294967296) = false := beq_eq_false_iff_ne.mpr c39
                          have c39b1 : (x10_35 != 4294967296) = true := bne_iff_ne.mpr c39
                          (first | rw [c39b0] | (simp only [i64_w, i32_w]; rw [c39b0]) | skip)
                          have H' := Aside0.mk H
                          clear H
                          go_wp2
                          go_meet
                          case rel => exact ⟨_, (x3_2), (x10_35), (by first | rfl | (simp; done) | (simp [*]; done)), (by first | rfl | (simp; done) | (simp [*]; done)), H', ⟨by have := HK1.out; have := HK2.out; have := HJ21.out; have := HJ35.out; first | omega | exact Nat.le_refl _⟩, ⟨by (with_reducible repeat (first | refine blk_drewN ?_ _ | refine blk_drew ?_ | refine blk_alloc ?_ _)); exact BK199.out⟩, ⟨by repeat (first | (with_reducible first | exact HB.out | apply below_alloc | apply pw_below_drewN | apply below_drew1 | refine below_set ?_ GE199.out) | exact HB.out)⟩⟩
                      case rest =>
                        clear HC38
                        try clear c1
                        try clear c2
                        try clear p2
                        try clear c3
                        try clear c4
                        try clear p6
                        try clear c8
                        try clear c19
                        try clear c30
                        try clear c33
                        try clear c34
                        try clear c35
                        try clear c37
                        try clear c39
                        try clear c39b0
                        try clear c39b1
                        try clear p2
                        try clear p6
                        obtain ⟨kq, x3_37, x10_37, rfl, rfl, HA, HJ37, BK199, HB⟩ := hcut
                        cases kq with
                        | zero => exact absurd HA.out (by simp [bakeref2_nearest.j4])
                        | succ kj37 =>
                          have H := HA.out
                          clear HA
                          simp only [bakeref2_nearest.j4] at H
                          by_cases c40 : (wrap64 (x3_37 + 160)) > 255
                          · rw [if_pos c40] at H
                            have c40b0 : decide (255 < (wrap64 (x3_37 + 160))) = true := decide_eq_true c40
                            clear c40
                            simp only [Option.some.injEq, Prod.mk.injEq] at H
                            obtain ⟨rfl, rfl, rfl, rfl, rfl, rfl⟩ := H
                            have hcz41_0 : wc.cell? ⟨gb199, 0, none⟩ = some (.int .u8 0) := (blk_cell BK199.out 0).trans rfl
                            have hcz41_1 : wc.cell? ⟨gb199, 1, none⟩ = some (.int .u8 0) := (blk_cell BK199.out 1).trans rfl
                            have hcz41_2 : wc.cell? ⟨gb199, 2, none⟩ = some (.int .u8 0) := (blk_cell BK199.out 2).trans rfl
                            have hcz41_3 : wc.cell? ⟨gb199, 3, none⟩ = some (.int .u8 0) := (blk_cell BK199.out 3).trans rfl
                            have hcz41_4 : wc.cell? ⟨gb199, 4, none⟩ = some (.int .u8 0) := (blk_cell BK199.out 4).trans rfl
                            have hfz41_0 := blk_frozen BK199.out 0
                            have hfz41_1 := blk_frozen BK199.out 1
                            have hfz41_2 := blk_frozen BK199.out 2
                            have hfz41_3 := blk_frozen BK199.out 3
                            have hfz41_4 := blk_frozen BK199.out 4
                            go_wp2
                            refine bodyPost_ret (results_ct rfl _ _ gb199 36 #[.int .u8 0, .int .u8 0, .int .u8 0, .int .u8 0, .int .u8 0] (0, 0) _ rfl (by (with_reducible repeat (first | refine blk_drewN ?_ _ | refine blk_drew ?_ | refine blk_alloc ?_ _)); refine blk_put (cs := #[.int .u8 0, .int .u8 0, .int .u8 0, .int .u8 0, .int .u8 0]) ?_ 4 _ rfl; (with_reducible repeat (first | refine blk_drewN ?_ _ | refine blk_drew ?_ | refine blk_alloc ?_ _)); refine blk_put (cs := #[.int .u8 0, .int .u8 0, .int .u8 0, .int .u8 0, .int .u8 0]) ?_ 3 _ rfl; (with_reducible repeat (first | refine blk_drewN ?_ _ | refine blk_drew ?_ | refine blk_alloc ?_ _)); refine blk_put (cs := #[.int .u8 0, .int .u8 0, .int .u8 0, .int .u8 0, .int .u8 0]) ?_ 2 _ rfl; (with_reducible repeat (first | refine blk_drewN ?_ _ | refine blk_drew ?_ | refine blk_alloc ?_ _)); refine blk_put (cs := #[.int .u8 0, .int .u8 0, .int .u8 0, .int .u8 0, .int .u8 0]) ?_ 1 _ rfl; (with_reducible repeat (first | refine blk_drewN ?_ _ | refine blk_drew ?_ | refine blk_alloc ?_ _)); refine blk_put (cs := #[.int .u8 0, .int .u8 0, .int .u8 0, .int .u8 0, .int .u8 0]) ?_ 0 _ rfl; (with_reducible repeat (first | refine blk_drewN ?_ _ | refine blk_drew ?_ | refine blk_alloc ?_ _)); exact BK199.out) Try.underlying36 rfl (by kernel_rfl)) rfl ?_
                            exact ⟨by first | rfl | (simp [errW_none, errW_some] <;> rfl) | (simp [*, errW_none, errW_some] <;> rfl), by repeat (first | (with_reducible first | exact HB.out | apply below_alloc | apply pw_below_drewN | apply below_drew1 | refine below_set ?_ GE199.out) | exact HB.out)⟩
                          · rw [if_neg c40] at H
                            have c40b0 : decide (255 < (wrap64 (x3_37 + 160))) = false := decide_eq_false c40
                            clear c40
                            by_cases c42 : (wrap64 (x3_37 + 160)) < 1
                            · rw [if_pos c42] at H
                              have c42b0 : decide ((wrap64 (x3_37 + 160)) < 1) = true := decide_eq_true c42
                              clear c42
                              simp only [Option.some.injEq, Prod.mk.injEq] at H
                              obtain ⟨rfl, rfl, rfl, rfl, rfl, rfl⟩ := H
                              have hcz43_0 : wc.cell? ⟨gb199, 0, none⟩ = some (.int .u8 0) := (blk_cell BK199.out 0).trans rfl
                              have hcz43_1 : wc.cell? ⟨gb199, 1, none⟩ = some (.int .u8 0) := (blk_cell BK199.out 1).trans rfl
                              have hcz43_2 : wc.cell? ⟨gb199, 2, none⟩ = some (.int .u8 0) := (blk_cell BK199.out 2).trans rfl
                              have hcz43_3 : wc.cell? ⟨gb199, 3, none⟩ = some (.int .u8 0) := (blk_cell BK199.out 3).trans rfl
                              have hcz43_4 : wc.cell? ⟨gb199, 4, none⟩ = some (.int .u8 0) := (blk_cell BK199.out 4).trans rfl
                              have hfz43_0 := blk_frozen BK199.out 0
                              have hfz43_1 := blk_frozen BK199.out 1
                              have hfz43_2 := blk_frozen BK199.out 2
                              have hfz43_3 := blk_frozen BK199.out 3
                              have hfz43_4 := blk_frozen BK199.out 4
                              go_wp2
                              refine bodyPost_ret (results_ct rfl _ _ gb199 36 #[.int .u8 0, .int .u8 0, .int .u8 0, .int .u8 0, .int .u8 0] (0, 0) _ rfl (by (with_reducible repeat (first | refine blk_drewN ?_ _ | refine blk_drew ?_ | refine blk_alloc ?_ _)); refine blk_put (cs := #[.int .u8 0, .int .u8 0, .int .u8 0, .int .u8 0, .int .u8 0]) ?_ 4 _ rfl; (with_reducible repeat (first | refine blk_drewN ?_ _ | refine blk_drew ?_ | refine blk_alloc ?_ _)); refine blk_put (cs := #[.int .u8 0, .int .u8 0, .int .u8 0, .int .u8 0, .int .u8 0]) ?_ 3 _ rfl; (with_reducible repeat (first | refine blk_drewN ?_ _ | refine blk_drew ?_ | refine blk_alloc ?_ _)); refine blk_put (cs := #[.int .u8 0, .int .u8 0, .int .u8 0, .int .u8 0, .int .u8 0]) ?_ 2 _ rfl; (with_reducible repeat (first | refine blk_drewN ?_ _ | refine blk_drew ?_ | refine blk_alloc ?_ _)); refine blk_put (cs := #[.int .u8 0, .int .u8 0, .int .u8 0, .int .u8 0, .int .u8 0]) ?_ 1 _ rfl; (with_reducible repeat (first | refine blk_drewN ?_ _ | refine blk_drew ?_ | refine blk_alloc ?_ _)); refine blk_put (cs := #[.int .u8 0, .int .u8 0, .int .u8 0, .int .u8 0, .int .u8 0]) ?_ 0 _ rfl; (with_reducible repeat (first | refine blk_drewN ?_ _ | refine blk_drew ?_ | refine blk_alloc ?_ _)); exact BK199.out) Try.underlying36 rfl (by kernel_rfl)) rfl ?_
                              exact ⟨by first | rfl | (simp [errW_none, errW_some] <;> rfl) | (simp [*, errW_none, errW_some] <;> rfl), by repeat (first | (with_reducible first | exact HB.out | apply below_alloc | apply pw_below_drewN | apply below_drew1 | refine below_set ?_ GE199.out) | exact HB.out)⟩
                            · rw [if_neg c42] at H
                              have c42b0 : decide ((wrap64 (x3_37 + 160)) < 1) = false := decide_eq_false c42
                              clear c42
                              by_cases c44 : a0 = true
                              · subst c44
                                have H1 : (some ((wrap64 (x3_37 + 160)) % 256, ((wrap64 ((wrap64 (x10_37 - 2147483648)) + 2147483648)) / 16777216) % 256, ((wrap64 ((wrap64 (x10_37 - 2147483648)) + 2147483648)) / 65536) % 256, ((wrap64 ((wrap64 (x10_37 - 2147483648)) + 2147483648)) / 256) % 256, (wrap64 ((wrap64 (x10_37 - 2147483648)) + 2147483648)) % 256, 0)) = some (r1, r2, r3, r4, r5, r6) := by rw [if_pos rfl] at H; exact H
                                clear H
                                have H := H1
                                clear H1
                                simp only [Option.some.injEq, Prod.mk.injEq] at H
                                obtain ⟨rfl, rfl, rfl, rfl, rfl, rfl⟩ := H
                                have hcz45_0 : wc.cell? ⟨gb199, 0, none⟩ = some (.int .u8 0) := (blk_cell BK199.out 0).trans rfl
                                have hcz45_1 : wc.cell? ⟨gb199, 1, none⟩ = some (.int .u8 0) := (blk_cell BK199.out 1).trans rfl
                                have hcz45_2 : wc.cell? ⟨gb199, 2, none⟩ = some (.int .u8 0) := (blk_cell BK199.out 2).trans rfl
                                have hcz45_3 : wc.cell? ⟨gb199, 3, none⟩ = some (.int .u8 0) := (blk_cell BK199.out 3).trans rfl
                                have hcz45_4 : wc.cell? ⟨gb199, 4, none⟩ = some (.int .u8 0) := (blk_cell BK199.out 4).trans rfl
                                have hfz45_0 := blk_frozen BK199.out 0
                                have hfz45_1 := blk_frozen BK199.out 1
                                have hfz45_2 := blk_frozen BK199.out 2
                                have hfz45_3 := blk_frozen BK199.out 3
                                have hfz45_4 := blk_frozen BK199.out 4
                                go_wp2
                                refine bodyPost_ret (results_ct rfl _ _ gb199 36 #[.int .u8 ((wrap64 (x3_37 + 160)) % 256), .int .u8 (((wrap64 ((wrap64 (x10_37 - 2147483648)) + 2147483648)) / 16777216) % 256), .int .u8 (((wrap64 ((wrap64 (x10_37 - 2147483648)) + 2147483648)) / 65536) % 256), .int .u8 (((wrap64 ((wrap64 (x10_37 - 2147483648)) + 2147483648)) / 256) % 256), .int .u8 ((wrap64 ((wrap64 (x10_37 - 2147483648)) + 2147483648)) % 256)] (0, 0) _ rfl (by (with_reducible repeat (first | refine blk_drewN ?_ _ | refine blk_drew ?_ | refine blk_alloc ?_ _)); refine blk_put (cs := #[.int .u8 ((wrap64 (x3_37 + 160)) % 256), .int .u8 (((wrap64 ((wrap64 (x10_37 - 2147483648)) + 2147483648)) / 16777216) % 256), .int .u8 (((wrap64 ((wrap64 (x10_37 - 2147483648)) + 2147483648)) / 65536) % 256), .int .u8 (((wrap64 ((wrap64 (x10_37 - 2147483648)) + 2147483648)) / 256) % 256), .int .u8 0]) ?_ 4 _ rfl; (with_reducible repeat (first | refine blk_drewN ?_ _ | refine blk_drew ?_ | refine blk_alloc ?_ _)); refine blk_put (cs := #[.int .u8 ((wrap64 (x3_37 + 160)) % 256), .int .u8 (((wrap64 ((wrap64 (x10_37 - 2147483648)) + 2147483648)) / 16777216) % 256), .int .u8 (((wrap64 ((wrap64 (x10_37 - 2147483648)) + 2147483648)) / 65536) % 256), .int .u8 0, .int .u8 0]) ?_ 3 _ rfl; (with_reducible repeat (first | refine blk_drewN ?_ _ | refine blk_drew ?_ | refine blk_alloc ?_ _)); refine blk_put (cs := #[.int .u8 ((wrap64 (x3_37 + 160)) % 256), .int .u8 (((wrap64 ((wrap64 (x10_37 - 2147483648)) + 2147483648)) / 16777216) % 256), .int .u8 0, .int .u8 0, .int .u8 0]) ?_ 2 _ rfl; (with_reducible repeat (first | refine blk_drewN ?_ _ | refine blk_drew ?_ | refine blk_alloc ?_ _)); refine blk_put (cs := #[.int .u8 ((wrap64 (x3_37 + 160)) % 256), .int .u8 0, .int .u8 0, .int .u8 0, .int .u8 0]) ?_ 1 _ rfl; (with_reducible repeat (first | refine blk_drewN ?_ _ | refine blk_drew ?_ | refine blk_alloc ?_ _)); refine blk_put (cs := #[.int .u8 0, .int .u8 0, .int .u8 0, .int .u8 0, .int .u8 0]) ?_ 0 _ rfl; (with_reducible repeat (first | refine blk_drewN ?_ _ | refine blk_drew ?_ | refine blk_alloc ?_ _)); exact BK199.out) Try.underlying36 rfl (by kernel_rfl)) rfl ?_
                                exact ⟨by first | rfl | (simp [errW_none, errW_some] <;> rfl) | (simp [*, errW_none, errW_some] <;> rfl), by repeat (first | (with_reducible first | exact HB.out | apply below_alloc | apply pw_below_drewN | apply below_drew1 | refine below_set ?_ GE199.out) | exact HB.out)⟩
                              · replace c44 := Bool.eq_false_iff.mpr c44
                                subst c44
                                have H1 : (some ((wrap64 (x3_37 + 160)) % 256, ((wrap64 (x10_37 - 2147483648)) / 16777216) % 256, ((wrap64 (x10_37 - 2147483648)) / 65536) % 256, ((wrap64 (x10_37 - 2147483648)) / 256) % 256, (wrap64 (x10_37 - 2147483648)) % 256, 0)) = some (r1, r2, r3, r4, r5, r6) := by rw [if_neg (show ¬ (false = true) by decide)] at H; exact H
                                clear H
                                have H := H1
                                clear H1
                                simp only [Option.some.injEq, Prod.mk.injEq] at H
                                obtain ⟨rfl, rfl, rfl, rfl, rfl, rfl⟩ := H
                                have hcz46_0 : wc.cell? ⟨gb199, 0, none⟩ = some (.int .u8 0) := (blk_cell BK199.out 0).trans rfl
                                have hcz46_1 : wc.cell? ⟨gb199, 1, none⟩ = some (.int .u8 0) := (blk_cell BK199.out 1).trans rfl
                                have hcz46_2 : wc.cell? ⟨gb199, 2, none⟩ = some (.int .u8 0) := (blk_cell BK199.out 2).trans rfl
                                have hcz46_3 : wc.cell? ⟨gb199, 3, none⟩ = some (.int .u8 0) := (blk_cell BK199.out 3).trans rfl
                                have hcz46_4 : wc.cell? ⟨gb199, 4, none⟩ = some (.int .u8 0) := (blk_cell BK199.out 4).trans rfl
                                have hfz46_0 := blk_frozen BK199.out 0
                                have hfz46_1 := blk_frozen BK199.out 1
                                have hfz46_2 := blk_frozen BK199.out 2
                                have hfz46_3 := blk_frozen BK199.out 3
                                have hfz46_4 := blk_frozen BK199.out 4
                                go_wp2
                                refine bodyPost_ret (results_ct rfl _ _ gb199 36 #[.int .u8 ((wrap64 (x3_37 + 160)) % 256), .int .u8 (((wrap64 (x10_37 - 2147483648)) / 16777216) % 256), .int .u8 (((wrap64 (x10_37 - 2147483648)) / 65536) % 256), .int .u8 (((wrap64 (x10_37 - 2147483648)) / 256) % 256), .int .u8 ((wrap64 (x10_37 - 2147483648)) % 256)] (0, 0) _ rfl (by (with_reducible repeat (first | refine blk_drewN ?_ _ | refine blk_drew ?_ | refine blk_alloc ?_ _)); refine blk_put (cs := #[.int .u8 ((wrap64 (x3_37 + 160)) % 256), .int .u8 (((wrap64 (x10_37 - 2147483648)) / 16777216) % 256), .int .u8 (((wrap64 (x10_37 - 2147483648)) / 65536) % 256), .int .u8 (((wrap64 (x10_37 - 2147483648)) / 256) % 256), .int .u8 0]) ?_ 4 _ rfl; (with_reducible repeat (first | refine blk_drewN ?_ _ | refine blk_drew ?_ | refine blk_alloc ?_ _)); refine blk_put (cs := #[.int .u8 ((wrap64 (x3_37 + 160)) % 256), .int .u8 (((wrap64 (x10_37 - 2147483648)) / 16777216) % 256), .int .u8 (((wrap64 (x10_37 - 2147483648)) / 65536) % 256), .int .u8 0, .int .u8 0]) ?_ 3 _ rfl; (with_reducible repeat (first | refine blk_drewN ?_ _ | refine blk_drew ?_ | refine blk_alloc ?_ _)); refine blk_put (cs := #[.int .u8 ((wrap64 (x3_37 + 160)) % 256), .int .u8 (((wrap64 (x10_37 - 2147483648)) / 16777216) % 256), .int .u8 0, .int .u8 0, .int .u8 0]) ?_ 2 _ rfl; (with_reducible repeat (first | refine blk_drewN ?_ _ | refine blk_drew ?_ | refine blk_alloc ?_ _)); refine blk_put (cs := #[.int .u8 ((wrap64 (x3_37 + 160)) % 256), .int .u8 0, .int .u8 0, .int .u8 0, .int .u8 0]) ?_ 1 _ rfl; (with_reducible repeat (first | refine blk_drewN ?_ _ | refine blk_drew ?_ | refine blk_alloc ?_ _)); refine blk_put (cs := #[.int .u8 0, .int .u8 0, .int .u8 0, .int .u8 0, .int .u8 0]) ?_ 0 _ rfl; (with_reducible repeat (first | refine blk_drewN ?_ _ | refine blk_drew ?_ | refine blk_alloc ?_ _)); exact BK199.out) Try.underlying36 rfl (by kernel_rfl)) rfl ?_
                                exact ⟨by first | rfl | (simp [errW_none, errW_some] <;> rfl) | (simp [*, errW_none, errW_some] <;> rfl), by repeat (first | (with_reducible first | exact HB.out | apply below_alloc | apply pw_below_drewN | apply below_drew1 | refine below_set ?_ GE199.out) | exact HB.out)⟩
            · replace c19 := Bool.eq_false_iff.mpr c19
              subst c19
              have H1 : ((bakeref2_nat_times.f k2 x2_2 2).bind fun t211 => (bakeref2_nearest.l1 k2 a0 x1_1 t211 (wrap64 (x3_2 + 1)))) = some (r1, r2, r3, r4, r5, r6) := by rw [if_neg (show ¬ (false = true) by decide)] at H; exact H
              clear H
              have H := H1
              clear H1
              replace H := Option.bind_eq_some_iff.mp H
              obtain ⟨t211, A470, H⟩ := H
              replace H : (bakeref2_nearest.l1 k2 a0 x1_1 t211 (wrap64 (x3_2 + 1))) = some (r1, r2, r3, r4, r5, r6) := H
              have A47 := Aside0.mk A470
              clear A470
              have H' := Aside0.mk H
              clear H
              obtain ⟨Ao48, co48, eo48⟩ := Kd.V_slice HO_2.out
              subst eo48
              go_wp2_with (first | ((with_reducible refine gate_callee (f := 35) rfl ?_); refine goesL_ (some 23) rfl rfl Try.func35 (by kernel_rfl) rfl #[.slice Ao48 x2_2.length co48, .int .i64 4294967296] rfl (by (try simp only [List.map_toArray, List.map_cons, List.map_nil]); first | done | rfl | (simp only [List.length_drop, List.length_take]; rfl)) ?_; (with_reducible refine (bakeref2_nat_times.calls k2 _ _ x2_2 4294967296 t207 _ ?side1 ?side2 A17.out).mono ?_); (case side1 => repeat (first | exact (Kd.V_reads' HO_2.out).2.2 | (with_reducible refine Kd.C_alloc ?_ _) | (with_reducible refine Kd.C_drewN ?_ _) | (with_reducible refine Kd.C_drew ?_))); (case side2 => exact (Kd.V_reads' HO_2.out).2.1); rintro e w49 ⟨v208, rfl, ho0, hb⟩; refine ⟨_, rfl, ?_⟩; have n0_ := Aside0.mk (Kd.V_elder' (by (with_reducible repeat (first | apply Kd.V_alloc | apply Kd.V_drewN | apply Kd.V_drew)); exact HO_1.out) (Kd.R_base ho0) hb); have n1_ := Aside0.mk (Kd.V_elder' (by (with_reducible repeat (first | apply Kd.V_alloc | apply Kd.V_drewN | apply Kd.V_drew)); exact HO_2.out) (Kd.R_base ho0) hb); have n2_ := Aside0.mk (Kd.R_lower (Kd.R_newM (M := fun k_ => (w.heap.size ≤ k_)) ho0 (below_size (by repeat (first | (with_reducible first | exact HB.out | apply below_alloc | apply pw_below_drewN | apply below_drew1 | refine below_set ?_ GE199.out) | exact HB.out))) (fun k_ h_ => h_)) (below_size (by repeat (first | (with_reducible first | exact HB.out | apply below_alloc | apply pw_below_drewN | apply below_drew1 | refine below_set ?_ GE199.out) | exact HB.out)))); have n3_ := Aside0.mk (blk_below (g := gb199) (o := .cells #[.int .u8 0, .int .u8 0, .int .u8 0, .int .u8 0, .int .u8 0] 36 (0, 0)) (by (with_reducible repeat (first | refine blk_drewN ?_ _ | refine blk_drew ?_ | refine blk_alloc ?_ _)); exact BK199.out) hb); have n4_ := Aside0.mk (below_step (by repeat (first | (with_reducible first | exact HB.out | apply below_alloc | apply pw_below_drewN | apply below_drew1 | refine below_set ?_ GE199.out) | exact HB.out)) hb); clear HO_1; clear HO_2; clear BK199; clear HB; have HO_1 := n0_; have HO_2 := n1_; have HO209 := n2_; have BK199 := n3_; have HB := n4_; clear n0_ n1_ n2_ n3_ n4_; (try clear hb); (try clear hb2); (try clear hk); (try clear hi); (try clear ho0); obtain ⟨Ao50, co50, eo50⟩ := Kd.R_slice HO209.out; subst eo50) | ((with_reducible refine gate_callee (f := 45) rfl ?_); refine goesL_ (some 24) rfl rfl Try.func45 (by kernel_rfl) rfl #[.slice Ao15 x1_1.length co15, .slice Ao50 t207.length co50] rfl (by (try simp only [List.map_toArray, List.map_cons, List.map_nil]); first | done | rfl | (simp only [List.length_drop, List.length_take]; rfl)) ?_; (with_reducible refine (bakeref2_nat_less.calls k2 _ _ x1_1 _ _ t207 false _ ?side1 ?side2 ?side3 ?side4 A18.out).mono ?_); (case side1 => repeat (first | exact (Kd.V_reads' HO_1.out).2.2 | (with_reducible refine Kd.C_alloc ?_ _) | (with_reducible refine Kd.C_drewN ?_ _) | (with_reducible refine Kd.C_drew ?_))); (case side2 => exact (Kd.V_reads' HO_1.out).2.1); (case side3 => repeat (first | exact (Kd.R_reads' HO209.out).2.2 | (with_reducible refine Kd.C_alloc ?_ _) | (with_reducible refine Kd.C_drewN ?_ _) | (with_reducible refine Kd.C_drew ?_))); (case side4 => exact (Kd.R_reads' HO209.out).2.1); rintro e w' ⟨rfl, ⟨nd, rfl⟩⟩; refine ⟨_, rfl, ?_⟩) | ((with_reducible refine gate_callee (f := 35) rfl ?_); refine goesL_ (some 27) rfl rfl Try.func35 (by kernel_rfl) rfl #[.slice Ao48 x2_2.length co48, .int .i64 2] rfl (by (try simp only [List.map_toArray, List.map_cons, List.map_nil]); first | done | rfl | (simp only [List.length_drop, List.length_take]; rfl)) ?_; (with_reducible refine (bakeref2_nat_times.calls k2 _ _ x2_2 2 t211 _ ?side1 ?side2 A47.out).mono ?_); (case side1 => repeat (first | exact (Kd.V_reads' HO_2.out).2.2 | (with_reducible refine Kd.C_alloc ?_ _) | (with_reducible refine Kd.C_drewN ?_ _) | (with_reducible refine Kd.C_drew ?_))); (case side2 => exact (Kd.V_reads' HO_2.out).2.1); rintro e w51 ⟨v212, rfl, ho0, hb⟩; refine ⟨_, rfl, ?_⟩; have n0_ := Aside0.mk (Kd.V_elder' (by (with_reducible repeat (first | apply Kd.V_alloc | apply Kd.V_drewN | apply Kd.V_drew)); exact HO_1.out) (Kd.R_base ho0) hb); have n1_ := Aside0.mk (Kd.V_elder' (by (with_reducible repeat (first | apply Kd.V_alloc | apply Kd.V_drewN | apply Kd.V_drew)); exact HO_2.out) (Kd.R_base ho0) hb); have n2_ := Aside0.mk (Kd.R_elder' (by (with_reducible repeat (first | apply Kd.R_alloc | apply Kd.R_drewN | apply Kd.R_drew)); exact HO209.out) (Kd.R_base ho0) hb); have n3_ := Aside0.mk (Kd.R_lower (Kd.R_new' (Kd.R_newM (M := fun k_ => (w.heap.size ≤ k_)) ho0 (below_size (by repeat (first | (with_reducible first | exact HB.out | apply below_alloc | apply pw_below_drewN | apply below_drew1 | refine below_set ?_ GE199.out) | exact HB.out))) (fun k_ h_ => h_)) (Kd.R_lt (by (with_reducible repeat (first | apply Kd.R_alloc | apply Kd.R_drewN | apply Kd.R_drew)); exact HO209.out))) (below_size (by repeat (first | (with_reducible first | exact HB.out | apply below_alloc | apply pw_below_drewN | apply below_drew1 | refine below_set ?_ GE199.out) | exact HB.out)))); have n4_ := Aside0.mk (blk_below (g := gb199) (o := .cells #[.int .u8 0, .int .u8 0, .int .u8 0, .int .u8 0, .int .u8 0] 36 (0, 0)) (by (with_reducible repeat (first | refine blk_drewN ?_ _ | refine blk_drew ?_ | refine blk_alloc ?_ _)); exact BK199.out) hb); have n5_ := Aside0.mk (below_step (by repeat (first | (with_reducible first | exact HB.out | apply below_alloc | apply pw_below_drewN | apply below_drew1 | refine below_set ?_ GE199.out) | exact HB.out)) hb); clear HO_1; clear HO_2; clear HO209; clear BK199; clear HB; have HO_1 := n0_; have HO_2 := n1_; have HO209 := n2_; have HO213 := n3_; have BK199 := n4_; have HB := n5_; clear n0_ n1_ n2_ n3_ n4_ n5_; (try clear hb); (try clear hb2); (try clear hk); (try clear hi); (try clear ho0)))
              go_roundg k2
              case measure => have := HK1.out; have := HK2.out; omega
              case rel => exact ⟨(t211), (wrap64 (x3_2 + 1)), (by first | rfl | (simp; done) | (simp [*]; done)), H', ⟨by have := HK1.out; have := HK2.out; omega⟩, ⟨by (with_reducible repeat (first | apply Kd.V_alloc | apply Kd.V_drewN | apply Kd.V_drew)); exact Kd.V_mono HO_1.out (fun _ hk => ⟨hk.1.1.1, hk.1.1.2⟩)⟩, ⟨Kd.V_mono (Kd.R_V (by (with_reducible repeat (first | apply Kd.R_alloc | apply Kd.R_drewN | apply Kd.R_drew)); exact Kd.R_types HO213.out BK199.out (by decide))) (fun k_ hk => by first | exact ⟨.inr hk.1.1.1, hk.2⟩ | exact ⟨(.inr (hk.1)), hk.2⟩ | exact (.inr (hk)))⟩, ⟨by (with_reducible repeat (first | refine blk_drewN ?_ _ | refine blk_drew ?_ | refine blk_alloc ?_ _)); exact BK199.out⟩, ⟨by repeat (first | (with_reducible first | exact HB.out | apply below_alloc | apply pw_below_drewN | apply below_drew1 | refine below_set ?_ GE199.out) | exact HB.out)⟩⟩

end Go.Proofs.Ytmedmifkeliepaa.PFiveMuls
