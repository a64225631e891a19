-- Written by this session's own program (wip/mp, over the kit's print) for this claim; Lean checks it.
import Derived.Test.YtmedmifkeliepaaPGcrWritesx0
import Derived.Test.YtmedmifkeliepaaPGcrWritesx1
import Derived.Test.YtmedmifkeliepaaPGcrWritesx3
import Derived.Test.YtmedmifkeliepaaPGcrWritesx4
import Derived.Test.YtmedmifkeliepaaPGcrWritesx6
namespace Go.Proofs.Ytmedmifkeliepaa.PGcrWrites
open Go.RowKit Go.Proofs.YtmedmifkeliepaaW.PrintWords Go.Proofs.YtmedmifkeliepaaW.PrintLast Go.Proofs.YtmedmifkeliepaaW.PrintMore
attribute [local go_sem] max2_int min2_int max_two min_two max_three min_three max_four min_four   -- for this text's walks alone
set_option linter.unusedVariables false
set_option linter.unusedSimpArgs false

/-! ### bakelaw2_GcrWrites: function 3 -/
def bakelaw2_GcrWrites.j0 : Nat → List Int → List Int → Int → Bool → Option (Bool)
  | 0, _, _, _, _ => none
  | k + 1, x0, x1, x2, x29 => if x29 = true then (some false) else ((gcr_Write.f k x0 x2).bind fun bt231 => ((gcr_Read.f k x1 x2).bind fun bt235 => ((bakeref2_Gcr.f k x0 x2).bind fun bt239 => ((bakeref2_GcrBytes.f k x1 x2).bind fun bt243 => (if bt231.2 = bt239.2 then (if bt235.2 = bt243.2 then ((slices_Equal_api_Track_int.f k bt231.1 bt239.1).bind fun t250 => (if t250 = true then ((slices_Equal_byte_byte.f k bt235.1 bt243.1).bind fun t251 => (if t251 = true then ((gcr_Codes.f).bind fun t252 => ((slices_Equal_int_int.f k t252 (([9, 10, 11, 13, 14, 15, 18, 19, 21, 22, 23, 25, 26, 27, 29, 30] : List Int))).bind fun t255 => (some t255))) else (some false))) else (some false))) else (some false)) else (some false))))))
def bakelaw2_GcrWrites.f (k : Nat) (l0 : List Int) (l1 : List Int) (a2 : Int) : Option (Bool) := (gcr_Write.f k ([] : List Int) 10).bind fun bt223 => (if bt223.2 = 0 then ((slices_Equal_api_Track_int.f k bt223.1 (([10] : List Int))).bind fun t230 => (bakelaw2_GcrWrites.j0 k l0 l1 a2 (!t230))) else (bakelaw2_GcrWrites.j0 k l0 l1 a2 true))
theorem bakelaw2_GcrWrites.mono_l : ∀ k, (∀ y0 y1 y2 y3, LeO (bakelaw2_GcrWrites.j0 k y0 y1 y2 y3) (bakelaw2_GcrWrites.j0 (k + 1) y0 y1 y2 y3))
  | 0 => fun _ _ _ _ r h => by simp [bakelaw2_GcrWrites.j0] at h
  | k + 1 => by
    have ih0 := bakelaw2_GcrWrites.mono_l k
    · intro y0 y1 y2 y3
      unfold bakelaw2_GcrWrites.j0
      repeat' first
      | (with_reducible exact ih0 _ _ _ _)
      | (with_reducible exact bakeref2_Gcr.mono _ _ _)
      | (with_reducible exact bakeref2_GcrBytes.mono _ _ _)
      | (with_reducible exact gcr_Read.mono _ _ _)
      | (with_reducible exact gcr_Write.mono _ _ _)
      | (with_reducible exact slices_Equal_api_Track_int.mono _ _ _)
      | (with_reducible exact slices_Equal_byte_byte.mono _ _ _)
      | (with_reducible exact slices_Equal_int_int.mono _ _ _)
      | (with_reducible exact LeO.refl _)
      | (with_reducible exact LeO.none _)
      | (with_reducible refine LeO.ite ?_ ?_)
      | (with_reducible refine LeO.bind ?_ (fun _ => ?_))
      | exact ih0 _ _ _ _
      | exact bakeref2_Gcr.mono _ _ _
      | exact bakeref2_GcrBytes.mono _ _ _
      | exact gcr_Read.mono _ _ _
      | exact gcr_Write.mono _ _ _
      | exact slices_Equal_api_Track_int.mono _ _ _
      | exact slices_Equal_byte_byte.mono _ _ _
      | exact slices_Equal_int_int.mono _ _ _
      | exact LeO.none _
      | refine LeO.ite ?_ ?_
      | refine LeO.bind ?_ (fun _ => ?_)
theorem bakelaw2_GcrWrites.mono : ∀ a0 a1 a2 k, LeO (bakelaw2_GcrWrites.f k a0 a1 a2) (bakelaw2_GcrWrites.f (k + 1) a0 a1 a2) := by
  intro a0 a1 a2 k
  have ih0 := bakelaw2_GcrWrites.mono_l k
  unfold bakelaw2_GcrWrites.f
  repeat' first
      | (with_reducible exact ih0 _ _ _ _)
      | (with_reducible exact bakeref2_Gcr.mono _ _ _)
      | (with_reducible exact bakeref2_GcrBytes.mono _ _ _)
      | (with_reducible exact gcr_Read.mono _ _ _)
      | (with_reducible exact gcr_Write.mono _ _ _)
      | (with_reducible exact slices_Equal_api_Track_int.mono _ _ _)
      | (with_reducible exact slices_Equal_byte_byte.mono _ _ _)
      | (with_reducible exact slices_Equal_int_int.mono _ _ _)
      | (with_reducible exact LeO.refl _)
      | (with_reducible exact LeO.none _)
      | (with_reducible refine LeO.ite ?_ ?_)
      | (with_reducible refine LeO.bind ?_ (fun _ => ?_))
      | exact ih0 _ _ _ _
      | exact bakeref2_Gcr.mono _ _ _
      | exact bakeref2_GcrBytes.mono _ _ _
      | exact gcr_Read.mono _ _ _
      | exact gcr_Write.mono _ _ _
      | exact slices_Equal_api_Track_int.mono _ _ _
      | exact slices_Equal_byte_byte.mono _ _ _
      | exact slices_Equal_int_int.mono _ _ _
      | exact LeO.none _
      | refine LeO.ite ?_ ?_
      | refine LeO.bind ?_ (fun _ => ?_)
set_option maxHeartbeats 8000000 in
set_option maxRecDepth 100000 in
theorem bakelaw2_GcrWrites.calls (k : Nat) (A0 : Option Addr) (c0 : Nat) (l0 : List Int) (A1 : Option Addr) (c1 : Nat) (l1 : List Int) (a2 : Int) (r : Bool) (w : World) (hr0 : Kd.C (Kd.int .u8) w A0 l0.length l0) (hc0 : l0.length ≤ c0) (hr1 : Kd.C (Kd.int .i64) w A1 l1.length l1) (hc1 : l1.length ≤ c1) (hT_ : r = true) (h : bakelaw2_GcrWrites.f k l0 l1 a2 = some r) :
    Calls Try.prog 3 #[.slice A0 l0.length c0, .slice A1 l1.length c1, .int .i64 a2] w fun e w' => e = .returned (.bool r) ∧ Below w.heap.size w w' := by
  have HR0 := Aside0.mk hr0
  have HC0 := Aside0.mk hc0
  clear hr0 hc0
  have HR1 := Aside0.mk hr1
  have HC1 := Aside0.mk hc1
  clear hr1 hc1
  have HB := Aside0.mk (Below.refl w.heap.size w)
  have H : ((gcr_Write.f k ([] : List Int) 10).bind fun bt223 => (if bt223.2 = 0 then ((slices_Equal_api_Track_int.f k bt223.1 (([10] : List Int))).bind fun t230 => (bakelaw2_GcrWrites.j0 k l0 l1 a2 (!t230))) else (bakelaw2_GcrWrites.j0 k l0 l1 a2 true))) = some r := h
  clear h
  replace H := Option.bind_eq_some_iff.mp H
  obtain ⟨⟨t223, t224⟩, A40, H⟩ := H
  replace H : (if t224 = 0 then ((slices_Equal_api_Track_int.f k t223 (([10] : List Int))).bind fun t230 => (bakelaw2_GcrWrites.j0 k l0 l1 a2 (!t230))) else (bakelaw2_GcrWrites.j0 k l0 l1 a2 true)) = some r := H
  have A4 := Aside0.mk A40
  clear A40
  have HC5 := Aside0.mk H
  clear H
  go_enter Try.func3, Try.ntmps3
  go_upto_region 2 with (first | ((with_reducible refine gate_callee (f := 5) rfl ?_); refine goesL_ (some 19) rfl rfl Try.func5 (by kernel_rfl) rfl #[.slice none 0 0, .int .i64 10] rfl (by (try simp only [List.map_toArray, List.map_cons, List.map_nil]); first | done | rfl | (simp only [List.length_drop, List.length_take]; rfl)) ?_; (refine (gcr_Write.calls k _ _ ([] : List Int) 10 t223 t224 _ ?side1 ?side2 A4.out).mono ?_); (case side1 => exact Kd.C_nil _ _); (case side2 => exact Nat.le_refl _); rintro e w6 ⟨v225, rfl, ho0, hb⟩; refine ⟨_, rfl, ?_⟩; have n0_ := Aside0.mk (Kd.R_lower ho0 (below_size (by repeat (first | (with_reducible first | exact HB.out | apply below_alloc | apply pw_below_drewN | apply below_drew1) | exact HB.out)))); have n1_ := Aside0.mk (below_step (by repeat (first | (with_reducible first | exact HB.out | apply below_alloc | apply pw_below_drewN | apply below_drew1) | exact HB.out)) hb); clear HB; have HO226 := n0_; have HB := n1_; clear n0_ n1_; (try clear hb); (try clear hb2); (try clear hk); (try clear hi); (try clear ho0)))
  (try simp only [Act.put, List.setIfInBounds_toArray, List.set_cons_zero, List.set_cons_succ])
  go_cut [29] (fun v29 wc => ∃ (kq : Nat) (x29_4 : Bool), v29 = .bool x29_4 ∧ Aside0 (bakelaw2_GcrWrites.j0 kq l0 l1 a2 x29_4 = some r) ∧ Aside0 (kq ≤ k) ∧ Aside0 (Below w.heap.size w wc))
  case first =>
    have H := HC5.out
    clear HC5
    by_cases c7 : t224 = 0
    · rw [if_pos c7] at H
      have c7b0 : (t224 == 0) = true := beq_iff_eq.mpr c7
      have c7b1 : (t224 != 0) = false := bne_eq_false_iff_eq.mpr c7
      clear c7
      (first | rw [c7b0] | (simp only [i64_w, i32_w]; rw [c7b0]) | skip)
      obtain ⟨y227, hy227⟩ : ∃ y_ : List Int, y_ = (([10] : List Int)) := ⟨_, rfl⟩
      replace H : ((slices_Equal_api_Track_int.f k t223 y227).bind fun t230 => (bakelaw2_GcrWrites.j0 k l0 l1 a2 (!t230))) = some r := by first | (rw [hy227]; with_reducible exact H) | (have H2_ := (Option.bind_some _ _).symm.trans H; rw [hy227]; with_reducible exact H2_) | (have H2_ := (Option.bind_some _ _).symm.trans H; with_reducible exact H2_) | with_reducible exact H | (rw [hy227]; exact H) | exact H
      have Ny227 := Aside0.mk hy227
      clear hy227
      replace H := Option.bind_eq_some_iff.mp H
      obtain ⟨t230, A80, H⟩ := H
      replace H : (bakelaw2_GcrWrites.j0 k l0 l1 a2 (!t230)) = some r := H
      have A8 := Aside0.mk A80
      clear A80
      have H' := Aside0.mk H
      clear H
      go_wp2_with (first | ((with_reducible refine gate_dst (N := 26) rfl ?_); (try (refine gate_guard (by rfl) ?_; dsimp only)); refine Kd.R_lit (Kd.int .i64) _ 3 ?hg (N := 26) ?hd (xs := ([10] : List Int)) (inner := [.int .i64 10]) (ok := fun _ => True) (okp := fun _ => True) ?hr ?hp (fun _ hk => hk) trivial (Below.refl _ _) (Nat.le_refl _) (by simp) ?_; (case hd => rfl); (case hg => rfl); (case hr => first | (go_simp; done) | (go_simp; rfl)); (case hp => exact (Reps.one (show Kd.M (Kd.int .i64) _ _ _ 10 [.int .i64 10] from rfl) (Reps.none _ _))); intro v228 w9 ho10 hb hg_ hnew_; clear hg_ hnew_; (first | rw [← Ny227.out] at ho10 | (simp only [Int.reduceToNat] at ho10; rw [← Ny227.out] at ho10)); have n0_ := Aside0.mk (Kd.R_elder' (by (with_reducible repeat (first | apply Kd.R_alloc | apply Kd.R_drewN | apply Kd.R_drew)); exact HO226.out) (Kd.R_base ho10) hb); have n1_ := Aside0.mk (Kd.R_lower (Kd.R_new' ho10 (Kd.R_lt (by (with_reducible repeat (first | apply Kd.R_alloc | apply Kd.R_drewN | apply Kd.R_drew)); exact HO226.out))) (below_size (by repeat (first | (with_reducible first | exact HB.out | apply below_alloc | apply pw_below_drewN | apply below_drew1) | exact HB.out)))); have n2_ := Aside0.mk (below_step (by repeat (first | (with_reducible first | exact HB.out | apply below_alloc | apply pw_below_drewN | apply below_drew1) | exact HB.out)) hb); clear HO226; clear HB; have HO226 := n0_; have HO229 := n1_; have HB := n2_; clear n0_ n1_ n2_; clear hb ho10; obtain ⟨Ao11, co11, eo11⟩ := Kd.R_slice HO226.out; subst eo11; obtain ⟨Ao12, co12, eo12⟩ := Kd.R_slice HO229.out; subst eo12) | (go_at_call 6; (with_reducible refine (slices_Equal_api_Track_int.calls k _ _ t223 _ _ y227 t230 _ ?side1 ?side2 ?side3 ?side4 A8.out).mono ?_); (case side1 => repeat (first | exact (Kd.R_reads' HO226.out).2.2 | (with_reducible refine Kd.C_alloc ?_ _) | (with_reducible refine Kd.C_drewN ?_ _) | (with_reducible refine Kd.C_drew ?_))); (case side2 => exact (Kd.R_reads' HO226.out).2.1); (case side3 => repeat (first | exact (Kd.R_reads' HO229.out).2.2 | (with_reducible refine Kd.C_alloc ?_ _) | (with_reducible refine Kd.C_drewN ?_ _) | (with_reducible refine Kd.C_drew ?_))); (case side4 => exact (Kd.R_reads' HO229.out).2.1); rintro e w' ⟨rfl, ⟨nd, rfl⟩⟩))
      go_meet
      case rel => exact ⟨_, (!t230), (by first | rfl | (simp; done) | (simp [*]; done)), H', ⟨by first | omega | exact Nat.le_refl _⟩, ⟨by repeat (first | (with_reducible first | exact HB.out | apply below_alloc | apply pw_below_drewN | apply below_drew1) | exact HB.out)⟩⟩
    · rw [if_neg c7] at H
      have c7b0 : (t224 == 0) = false := beq_eq_false_iff_ne.mpr c7
      have c7b1 : (t224 != 0) = true := bne_iff_ne.mpr c7
      (first | rw [c7b0] | (simp only [i64_w, i32_w]; rw [c7b0]) | skip)
      have H' := Aside0.mk H
      clear H
      go_wp2
      go_meet
      case rel => exact ⟨_, (true), (by first | rfl | (simp; done) | (simp [*]; done)), H', ⟨by first | omega | exact Nat.le_refl _⟩, ⟨by repeat (first | (with_reducible first | exact HB.out | apply below_alloc | apply pw_below_drewN | apply below_drew1) | exact HB.out)⟩⟩
  case rest =>
    clear HC5
    try clear c1
    try clear p2
    try clear c3
    try clear c5
    try clear c7
    try clear c7b0
    try clear c7b1
    obtain ⟨kq, x29_4, rfl, HA, HJ4, HB⟩ := hcut
    cases kq with
    | zero => exact absurd HA.out (by simp [bakelaw2_GcrWrites.j0])
    | succ kj4 =>
      have H := HA.out
      clear HA
      simp only [bakelaw2_GcrWrites.j0] at H
      by_cases c13 : x29_4 = true
      · subst c13
        have H1 : (some false) = some r := by rw [if_pos rfl] at H; exact H
        clear H
        have H := H1
        clear H1
        exact absurd (H.trans (congrArg some hT_)) (by simp)
      · replace c13 := Bool.eq_false_iff.mpr c13
        subst c13
        have H1 : ((gcr_Write.f kj4 l0 a2).bind fun bt231 => ((gcr_Read.f kj4 l1 a2).bind fun bt235 => ((bakeref2_Gcr.f kj4 l0 a2).bind fun bt239 => ((bakeref2_GcrBytes.f kj4 l1 a2).bind fun bt243 => (if bt231.2 = bt239.2 then (if bt235.2 = bt243.2 then ((slices_Equal_api_Track_int.f kj4 bt231.1 bt239.1).bind fun t250 => (if t250 = true then ((slices_Equal_byte_byte.f kj4 bt235.1 bt243.1).bind fun t251 => (if t251 = true then ((gcr_Codes.f).bind fun t252 => ((slices_Equal_int_int.f kj4 t252 (([9, 10, 11, 13, 14, 15, 18, 19, 21, 22, 23, 25, 26, 27, 29, 30] : List Int))).bind fun t255 => (some t255))) else (some false))) else (some false))) else (some false)) else (some false)))))) = some r := by rw [if_neg (show ¬ (false = true) by decide)] at H; exact H
        clear H
        have H := H1
        clear H1
        replace H := Option.bind_eq_some_iff.mp H
        obtain ⟨⟨t231, t232⟩, A140, H⟩ := H
        replace H : ((gcr_Read.f kj4 l1 a2).bind fun bt235 => ((bakeref2_Gcr.f kj4 l0 a2).bind fun bt239 => ((bakeref2_GcrBytes.f kj4 l1 a2).bind fun bt243 => (if t232 = bt239.2 then (if bt235.2 = bt243.2 then ((slices_Equal_api_Track_int.f kj4 t231 bt239.1).bind fun t250 => (if t250 = true then ((slices_Equal_byte_byte.f kj4 bt235.1 bt243.1).bind fun t251 => (if t251 = true then ((gcr_Codes.f).bind fun t252 => ((slices_Equal_int_int.f kj4 t252 (([9, 10, 11, 13, 14, 15, 18, 19, 21, 22, 23, 25, 26, 27, 29, 30] : List Int))).bind fun t255 => (some t255))) else (some false))) else (some false))) else (some false)) else (some false))))) = some r := H
        have A14 := Aside0.mk A140
        clear A140
        replace H := Option.bind_eq_some_iff.mp H
        obtain ⟨⟨t235, t236⟩, A150, H⟩ := H
        replace H : ((bakeref2_Gcr.f kj4 l0 a2).bind fun bt239 => ((bakeref2_GcrBytes.f kj4 l1 a2).bind fun bt243 => (if t232 = bt239.2 then (if t236 = bt243.2 then ((slices_Equal_api_Track_int.f kj4 t231 bt239.1).bind fun t250 => (if t250 = true then ((slices_Equal_byte_byte.f kj4 t235 bt243.1).bind fun t251 => (if t251 = true then ((gcr_Codes.f).bind fun t252 => ((slices_Equal_int_int.f kj4 t252 (([9, 10, 11, 13, 14, 15, 18, 19, 21, 22, 23, 25, 26, 27, 29, 30] : List Int))).bind fun t255 => (some t255))) else (some false))) else (some false))) else (some false)) else (some false)))) = some r := H
        have A15 := Aside0.mk A150
        clear A150
        replace H := Option.bind_eq_some_iff.mp H
        obtain ⟨⟨t239, t240⟩, A160, H⟩ := H
        replace H : ((bakeref2_GcrBytes.f kj4 l1 a2).bind fun bt243 => (if t232 = t240 then (if t236 = bt243.2 then ((slices_Equal_api_Track_int.f kj4 t231 t239).bind fun t250 => (if t250 = true then ((slices_Equal_byte_byte.f kj4 t235 bt243.1).bind fun t251 => (if t251 = true then ((gcr_Codes.f).bind fun t252 => ((slices_Equal_int_int.f kj4 t252 (([9, 10, 11, 13, 14, 15, 18, 19, 21, 22, 23, 25, 26, 27, 29, 30] : List Int))).bind fun t255 => (some t255))) else (some false))) else (some false))) else (some false)) else (some false))) = some r := H
        have A16 := Aside0.mk A160
        clear A160
        replace H := Option.bind_eq_some_iff.mp H
        obtain ⟨⟨t243, t244⟩, A170, H⟩ := H
        replace H : (if t232 = t240 then (if t236 = t244 then ((slices_Equal_api_Track_int.f kj4 t231 t239).bind fun t250 => (if t250 = true then ((slices_Equal_byte_byte.f kj4 t235 t243).bind fun t251 => (if t251 = true then ((gcr_Codes.f).bind fun t252 => ((slices_Equal_int_int.f kj4 t252 (([9, 10, 11, 13, 14, 15, 18, 19, 21, 22, 23, 25, 26, 27, 29, 30] : List Int))).bind fun t255 => (some t255))) else (some false))) else (some false))) else (some false)) else (some false)) = some r := H
        have A17 := Aside0.mk A170
        clear A170
        obtain ⟨y247, hy247⟩ : ∃ y_ : List Int, y_ = (([9, 10, 11, 13, 14, 15, 18, 19, 21, 22, 23, 25, 26, 27, 29, 30] : List Int)) := ⟨_, rfl⟩
        replace H : (if t232 = t240 then (if t236 = t244 then ((slices_Equal_api_Track_int.f kj4 t231 t239).bind fun t250 => (if t250 = true then ((slices_Equal_byte_byte.f kj4 t235 t243).bind fun t251 => (if t251 = true then ((gcr_Codes.f).bind fun t252 => ((slices_Equal_int_int.f kj4 t252 y247).bind fun t255 => (some t255))) else (some false))) else (some false))) else (some false)) else (some false)) = some r := by first | (rw [hy247]; with_reducible exact H) | (have H2_ := (Option.bind_some _ _).symm.trans H; rw [hy247]; with_reducible exact H2_) | (have H2_ := (Option.bind_some _ _).symm.trans H; with_reducible exact H2_) | with_reducible exact H | (rw [hy247]; exact H) | exact H
        have Ny247 := Aside0.mk hy247
        clear hy247
        by_cases c18 : t232 = t240
        · rw [if_pos c18] at H
          have c18b0 : (t232 == t240) = true := beq_iff_eq.mpr c18
          have c18b1 : (t232 != t240) = false := bne_eq_false_iff_eq.mpr c18
          clear c18
          by_cases c19 : t236 = t244
          · rw [if_pos c19] at H
            have c19b0 : (t236 == t244) = true := beq_iff_eq.mpr c19
            have c19b1 : (t236 != t244) = false := bne_eq_false_iff_eq.mpr c19
            clear c19
            replace H := Option.bind_eq_some_iff.mp H
            obtain ⟨t250, A200, H⟩ := H
            replace H : (if t250 = true then ((slices_Equal_byte_byte.f kj4 t235 t243).bind fun t251 => (if t251 = true then ((gcr_Codes.f).bind fun t252 => ((slices_Equal_int_int.f kj4 t252 y247).bind fun t255 => (some t255))) else (some false))) else (some false)) = some r := H
            have A20 := Aside0.mk A200
            clear A200
            by_cases c21 : t250 = true
            · subst c21
              have H1 : ((slices_Equal_byte_byte.f kj4 t235 t243).bind fun t251 => (if t251 = true then ((gcr_Codes.f).bind fun t252 => ((slices_Equal_int_int.f kj4 t252 y247).bind fun t255 => (some t255))) else (some false))) = some r := by rw [if_pos rfl] at H; exact H
              clear H
              have H := H1
              clear H1
              replace H := Option.bind_eq_some_iff.mp H
              obtain ⟨t251, A220, H⟩ := H
              replace H : (if t251 = true then ((gcr_Codes.f).bind fun t252 => ((slices_Equal_int_int.f kj4 t252 y247).bind fun t255 => (some t255))) else (some false)) = some r := H
              have A22 := Aside0.mk A220
              clear A220
              by_cases c23 : t251 = true
              · subst c23
                have H1 : ((gcr_Codes.f).bind fun t252 => ((slices_Equal_int_int.f kj4 t252 y247).bind fun t255 => (some t255))) = some r := by rw [if_pos rfl] at H; exact H
                clear H
                have H := H1
                clear H1
                replace H := Option.bind_eq_some_iff.mp H
                obtain ⟨t252, A240, H⟩ := H
                replace H : ((slices_Equal_int_int.f kj4 t252 y247).bind fun t255 => (some t255)) = some r := H
                have A24 := Aside0.mk A240
                clear A240
                replace H := Option.bind_eq_some_iff.mp H
                obtain ⟨t255, A250, H⟩ := H
                replace H : (some t255) = some r := H
                have A25 := Aside0.mk A250
                clear A250
                clear hT_
                obtain rfl := Option.some.inj H
                go_wp2_with (first | ((with_reducible refine gate_callee (f := 5) rfl ?_); refine goesL_ (some 33) rfl rfl Try.func5 (by kernel_rfl) rfl #[.slice A0 l0.length c0, .int .i64 a2] rfl (by (try simp only [List.map_toArray, List.map_cons, List.map_nil]); first | done | rfl | (simp only [List.length_drop, List.length_take]; rfl)) ?_; (with_reducible refine (gcr_Write.calls kj4 _ _ l0 a2 t231 t232 _ ?side1 ?side2 A14.out).mono ?_); (case side1 => repeat (first | exact (Kd.C_below HR0.out HB.out) | (with_reducible refine Kd.C_alloc ?_ _) | (with_reducible refine Kd.C_drewN ?_ _) | (with_reducible refine Kd.C_drew ?_))); (case side2 => exact HC0.out); rintro e w26 ⟨v233, rfl, ho0, hb⟩; refine ⟨_, rfl, ?_⟩; have n0_ := Aside0.mk (Kd.R_lower ho0 (below_size (by repeat (first | (with_reducible first | exact HB.out | apply below_alloc | apply pw_below_drewN | apply below_drew1) | exact HB.out)))); have n1_ := Aside0.mk (below_step (by repeat (first | (with_reducible first | exact HB.out | apply below_alloc | apply pw_below_drewN | apply below_drew1) | exact HB.out)) hb); clear HB; have HO234 := n0_; have HB := n1_; clear n0_ n1_; (try clear hb); (try clear hb2); (try clear hk); (try clear hi); (try clear ho0)) | ((with_reducible refine gate_callee (f := 7) rfl ?_); refine goesL_ (some 39) rfl rfl Try.func7 (by kernel_rfl) rfl #[.slice A1 l1.length c1, .int .i64 a2] rfl (by (try simp only [List.map_toArray, List.map_cons, List.map_nil]); first | done | rfl | (simp only [List.length_drop, List.length_take]; rfl)) ?_; (with_reducible refine (gcr_Read.calls kj4 _ _ l1 a2 t235 t236 _ ?side1 ?side2 A15.out).mono ?_); (case side1 => repeat (first | exact (Kd.C_below HR1.out HB.out) | (with_reducible refine Kd.C_alloc ?_ _) | (with_reducible refine Kd.C_drewN ?_ _) | (with_reducible refine Kd.C_drew ?_))); (case side2 => exact HC1.out); rintro e w27 ⟨v237, rfl, ho0, hb⟩; refine ⟨_, rfl, ?_⟩; have n0_ := Aside0.mk (Kd.R_below (by (with_reducible repeat (first | apply Kd.R_alloc | apply Kd.R_drewN | apply Kd.R_drew)); exact HO234.out) hb); have n1_ := Aside0.mk (Kd.R_lower ho0 (below_size (by repeat (first | (with_reducible first | exact HB.out | apply below_alloc | apply pw_below_drewN | apply below_drew1) | exact HB.out)))); have n2_ := Aside0.mk (below_step (by repeat (first | (with_reducible first | exact HB.out | apply below_alloc | apply pw_below_drewN | apply below_drew1) | exact HB.out)) hb); clear HO234; clear HB; have HO234 := n0_; have HO238 := n1_; have HB := n2_; clear n0_ n1_ n2_; (try clear hb); (try clear hb2); (try clear hk); (try clear hi); (try clear ho0)) | ((with_reducible refine gate_callee (f := 8) rfl ?_); refine goesL_ (some 45) rfl rfl Try.func8 (by kernel_rfl) rfl #[.slice A0 l0.length c0, .int .i64 a2] rfl (by (try simp only [List.map_toArray, List.map_cons, List.map_nil]); first | done | rfl | (simp only [List.length_drop, List.length_take]; rfl)) ?_; (with_reducible refine (bakeref2_Gcr.calls kj4 _ _ l0 a2 t239 t240 _ ?side1 ?side2 A16.out).mono ?_); (case side1 => repeat (first | exact (Kd.C_below HR0.out HB.out) | (with_reducible refine Kd.C_alloc ?_ _) | (with_reducible refine Kd.C_drewN ?_ _) | (with_reducible refine Kd.C_drew ?_))); (case side2 => exact HC0.out); rintro e w28 ⟨v241, rfl, ho0, hb⟩; refine ⟨_, rfl, ?_⟩; have n0_ := Aside0.mk (Kd.R_elder' (by (with_reducible repeat (first | apply Kd.R_alloc | apply Kd.R_drewN | apply Kd.R_drew)); exact HO234.out) (Kd.R_base ho0) hb); have n1_ := Aside0.mk (Kd.R_below (by (with_reducible repeat (first | apply Kd.R_alloc | apply Kd.R_drewN | apply Kd.R_drew)); exact HO238.out) hb); have n2_ := Aside0.mk (Kd.R_lower (Kd.R_new' ho0 (Kd.R_lt (by (with_reducible repeat (first | apply Kd.R_alloc | apply Kd.R_drewN | apply Kd.R_drew)); exact HO234.out))) (below_size (by repeat (first | (with_reducible first | exact HB.out | apply below_alloc | apply pw_below_drewN | apply below_drew1) | exact HB.out)))); have n3_ := Aside0.mk (below_step (by repeat (first | (with_reducible first | exact HB.out | apply below_alloc | apply pw_below_drewN | apply below_drew1) | exact HB.out)) hb); clear HO234; clear HO238; clear HB; have HO234 := n0_; have HO238 := n1_; have HO242 := n2_; have HB := n3_; clear n0_ n1_ n2_ n3_; (try clear hb); (try clear hb2); (try clear hk); (try clear hi); (try clear ho0)) | ((with_reducible refine gate_callee (f := 9) rfl ?_); refine goesL_ (some 51) rfl rfl Try.func9 (by kernel_rfl) rfl #[.slice A1 l1.length c1, .int .i64 a2] rfl (by (try simp only [List.map_toArray, List.map_cons, List.map_nil]); first | done | rfl | (simp only [List.length_drop, List.length_take]; rfl)) ?_; (with_reducible refine (bakeref2_GcrBytes.calls kj4 _ _ l1 a2 t243 t244 _ ?side1 ?side2 A17.out).mono ?_); (case side1 => repeat (first | exact (Kd.C_below HR1.out HB.out) | (with_reducible refine Kd.C_alloc ?_ _) | (with_reducible refine Kd.C_drewN ?_ _) | (with_reducible refine Kd.C_drew ?_))); (case side2 => exact HC1.out); rintro e w29 ⟨v245, rfl, ho0, hb⟩; refine ⟨_, rfl, ?_⟩; have n0_ := Aside0.mk (Kd.R_below (by (with_reducible repeat (first | apply Kd.R_alloc | apply Kd.R_drewN | apply Kd.R_drew)); exact HO234.out) hb); have n1_ := Aside0.mk (Kd.R_elder' (by (with_reducible repeat (first | apply Kd.R_alloc | apply Kd.R_drewN | apply Kd.R_drew)); exact HO238.out) (Kd.R_base ho0) hb); have n2_ := Aside0.mk (Kd.R_below (by (with_reducible repeat (first | apply Kd.R_alloc | apply Kd.R_drewN | apply Kd.R_drew)); exact HO242.out) hb); have n3_ := Aside0.mk (Kd.R_lower (Kd.R_new' ho0 (Kd.R_lt (by (with_reducible repeat (first | apply Kd.R_alloc | apply Kd.R_drewN | apply Kd.R_drew)); exact HO238.out))) (below_size (by repeat (first | (with_reducible first | exact HB.out | apply below_alloc | apply pw_below_drewN | apply below_drew1) | exact HB.out)))); have n4_ := Aside0.mk (below_step (by repeat (first | (with_reducible first | exact HB.out | apply below_alloc | apply pw_below_drewN | apply below_drew1) | exact HB.out)) hb); clear HO234; clear HO238; clear HO242; clear HB; have HO234 := n0_; have HO238 := n1_; have HO242 := n2_; have HO246 := n3_; have HB := n4_; clear n0_ n1_ n2_ n3_ n4_; (try clear hb); (try clear hb2); (try clear hk); (try clear hi); (try clear ho0)) | ((with_reducible refine gate_dst (N := 54) rfl ?_); (try (refine gate_guard (by rfl) ?_; dsimp only)); refine Kd.R_lit (Kd.int .i64) _ 3 ?hg (N := 54) ?hd (xs := ([9, 10, 11, 13, 14, 15, 18, 19, 21, 22, 23, 25, 26, 27, 29, 30] : List Int)) (inner := [.int .i64 9, .int .i64 10, .int .i64 11, .int .i64 13, .int .i64 14, .int .i64 15, .int .i64 18, .int .i64 19, .int .i64 21, .int .i64 22, .int .i64 23, .int .i64 25, .int .i64 26, .int .i64 27, .int .i64 29, .int .i64 30]) (ok := fun _ => True) (okp := fun _ => True) ?hr ?hp (fun _ hk => hk) trivial (Below.refl _ _) (Nat.le_refl _) (by simp) ?_; (case hd => rfl); (case hg => rfl); (case hr => first | (go_simp; done) | (go_simp; rfl)); (case hp => exact (Reps.one (show Kd.M (Kd.int .i64) _ _ _ 9 [.int .i64 9] from rfl) (Reps.one (show Kd.M (Kd.int .i64) _ _ _ 10 [.int .i64 10] from rfl) (Reps.one (show Kd.M (Kd.int .i64) _ _ _ 11 [.int .i64 11] from rfl) (Reps.one (show Kd.M (Kd.int .i64) _ _ _ 13 [.int .i64 13] from rfl) (Reps.one (show Kd.M (Kd.int .i64) _ _ _ 14 [.int .i64 14] from rfl) (Reps.one (show Kd.M (Kd.int .i64) _ _ _ 15 [.int .i64 15] from rfl) (Reps.one (show Kd.M (Kd.int .i64) _ _ _ 18 [.int .i64 18] from rfl) (Reps.one (show Kd.M (Kd.int .i64) _ _ _ 19 [.int .i64 19] from rfl) (Reps.one (show Kd.M (Kd.int .i64) _ _ _ 21 [.int .i64 21] from rfl) (Reps.one (show Kd.M (Kd.int .i64) _ _ _ 22 [.int .i64 22] from rfl) (Reps.one (show Kd.M (Kd.int .i64) _ _ _ 23 [.int .i64 23] from rfl) (Reps.one (show Kd.M (Kd.int .i64) _ _ _ 25 [.int .i64 25] from rfl) (Reps.one (show Kd.M (Kd.int .i64) _ _ _ 26 [.int .i64 26] from rfl) (Reps.one (show Kd.M (Kd.int .i64) _ _ _ 27 [.int .i64 27] from rfl) (Reps.one (show Kd.M (Kd.int .i64) _ _ _ 29 [.int .i64 29] from rfl) (Reps.one (show Kd.M (Kd.int .i64) _ _ _ 30 [.int .i64 30] from rfl) (Reps.none _ _)))))))))))))))))); intro v248 w30 ho31 hb hg_ hnew_; clear hg_ hnew_; (first | rw [← Ny247.out] at ho31 | (simp only [Int.reduceToNat] at ho31; rw [← Ny247.out] at ho31)); have n0_ := Aside0.mk (Kd.R_elder' (by (with_reducible repeat (first | apply Kd.R_alloc | apply Kd.R_drewN | apply Kd.R_drew)); exact HO234.out) (Kd.R_base ho31) hb); have n1_ := Aside0.mk (Kd.R_below (by (with_reducible repeat (first | apply Kd.R_alloc | apply Kd.R_drewN | apply Kd.R_drew)); exact HO238.out) hb); have n2_ := Aside0.mk (Kd.R_elder' (by (with_reducible repeat (first | apply Kd.R_alloc | apply Kd.R_drewN | apply Kd.R_drew)); exact HO242.out) (Kd.R_base ho31) hb); have n3_ := Aside0.mk (Kd.R_below (by (with_reducible repeat (first | apply Kd.R_alloc | apply Kd.R_drewN | apply Kd.R_drew)); exact HO246.out) hb); have n4_ := Aside0.mk (Kd.R_lower (Kd.R_new' (Kd.R_new' ho31 (Kd.R_lt (by (with_reducible repeat (first | apply Kd.R_alloc | apply Kd.R_drewN | apply Kd.R_drew)); exact HO234.out))) (Kd.R_lt (by (with_reducible repeat (first | apply Kd.R_alloc | apply Kd.R_drewN | apply Kd.R_drew)); exact HO242.out))) (below_size (by repeat (first | (with_reducible first | exact HB.out | apply below_alloc | apply pw_below_drewN | apply below_drew1) | exact HB.out)))); have n5_ := Aside0.mk (below_step (by repeat (first | (with_reducible first | exact HB.out | apply below_alloc | apply pw_below_drewN | apply below_drew1) | exact HB.out)) hb); clear HO234; clear HO238; clear HO242; clear HO246; clear HB; have HO234 := n0_; have HO238 := n1_; have HO242 := n2_; have HO246 := n3_; have HO249 := n4_; have HB := n5_; clear n0_ n1_ n2_ n3_ n4_ n5_; clear hb ho31; obtain ⟨Ao32, co32, eo32⟩ := Kd.R_slice HO234.out; subst eo32; obtain ⟨Ao33, co33, eo33⟩ := Kd.R_slice HO242.out; subst eo33) | (go_at_call 6; (with_reducible refine (slices_Equal_api_Track_int.calls kj4 _ _ t231 _ _ t239 true _ ?side1 ?side2 ?side3 ?side4 A20.out).mono ?_); (case side1 => repeat (first | exact (Kd.R_reads' HO234.out).2.2 | (with_reducible refine Kd.C_alloc ?_ _) | (with_reducible refine Kd.C_drewN ?_ _) | (with_reducible refine Kd.C_drew ?_))); (case side2 => exact (Kd.R_reads' HO234.out).2.1); (case side3 => repeat (first | exact (Kd.R_reads' HO242.out).2.2 | (with_reducible refine Kd.C_alloc ?_ _) | (with_reducible refine Kd.C_drewN ?_ _) | (with_reducible refine Kd.C_drew ?_))); (case side4 => exact (Kd.R_reads' HO242.out).2.1); rintro e w' ⟨rfl, ⟨nd, rfl⟩⟩; obtain ⟨Ao34, co34, eo34⟩ := Kd.R_slice HO238.out; subst eo34; obtain ⟨Ao35, co35, eo35⟩ := Kd.R_slice HO246.out; subst eo35) | (go_at_call 10; (with_reducible refine (slices_Equal_byte_byte.calls kj4 _ _ t235 _ _ t243 true _ ?side1 ?side2 ?side3 ?side4 A22.out).mono ?_); (case side1 => repeat (first | exact (Kd.R_reads' HO238.out).2.2 | (with_reducible refine Kd.C_alloc ?_ _) | (with_reducible refine Kd.C_drewN ?_ _) | (with_reducible refine Kd.C_drew ?_))); (case side2 => exact (Kd.R_reads' HO238.out).2.1); (case side3 => repeat (first | exact (Kd.R_reads' HO246.out).2.2 | (with_reducible refine Kd.C_alloc ?_ _) | (with_reducible refine Kd.C_drewN ?_ _) | (with_reducible refine Kd.C_drew ?_))); (case side4 => exact (Kd.R_reads' HO246.out).2.1); rintro e w' ⟨rfl, ⟨nd, rfl⟩⟩) | (go_at_call 12; (with_reducible refine (gcr_Codes.calls  t252 _ A24.out).mono ?_); rintro e w36 ⟨v253, rfl, ho0, hb⟩; have n0_ := Aside0.mk (Kd.R_elder' (by (with_reducible repeat (first | apply Kd.R_alloc | apply Kd.R_drewN | apply Kd.R_drew)); exact HO234.out) (Kd.R_base ho0) hb); have n1_ := Aside0.mk (Kd.R_below (by (with_reducible repeat (first | apply Kd.R_alloc | apply Kd.R_drewN | apply Kd.R_drew)); exact HO238.out) hb); have n2_ := Aside0.mk (Kd.R_elder' (by (with_reducible repeat (first | apply Kd.R_alloc | apply Kd.R_drewN | apply Kd.R_drew)); exact HO242.out) (Kd.R_base ho0) hb); have n3_ := Aside0.mk (Kd.R_below (by (with_reducible repeat (first | apply Kd.R_alloc | apply Kd.R_drewN | apply Kd.R_drew)); exact HO246.out) hb); have n4_ := Aside0.mk (Kd.R_elder' (by (with_reducible repeat (first | apply Kd.R_alloc | apply Kd.R_drewN | apply Kd.R_drew)); exact HO249.out) (Kd.R_base ho0) hb); have n5_ := Aside0.mk (Kd.R_lower (Kd.R_new' (Kd.R_new' (Kd.R_new' ho0 (Kd.R_lt (by (with_reducible repeat (first | apply Kd.R_alloc | apply Kd.R_drewN | apply Kd.R_drew)); exact HO234.out))) (Kd.R_lt (by (with_reducible repeat (first | apply Kd.R_alloc | apply Kd.R_drewN | apply Kd.R_drew)); exact HO242.out))) (Kd.R_lt (by (with_reducible repeat (first | apply Kd.R_alloc | apply Kd.R_drewN | apply Kd.R_drew)); exact HO249.out))) (below_size (by repeat (first | (with_reducible first | exact HB.out | apply below_alloc | apply pw_below_drewN | apply below_drew1) | exact HB.out)))); have n6_ := Aside0.mk (below_step (by repeat (first | (with_reducible first | exact HB.out | apply below_alloc | apply pw_below_drewN | apply below_drew1) | exact HB.out)) hb); clear HO234; clear HO238; clear HO242; clear HO246; clear HO249; clear HB; have HO234 := n0_; have HO238 := n1_; have HO242 := n2_; have HO246 := n3_; have HO249 := n4_; have HO254 := n5_; have HB := n6_; clear n0_ n1_ n2_ n3_ n4_ n5_ n6_; (try clear hb); (try clear hb2); (try clear hk); (try clear hi); (try clear ho0); obtain ⟨Ao37, co37, eo37⟩ := Kd.R_slice HO254.out; subst eo37; obtain ⟨Ao38, co38, eo38⟩ := Kd.R_slice HO249.out; subst eo38) | (go_at_call 11; (with_reducible refine (slices_Equal_int_int.calls kj4 _ _ t252 _ _ y247 t255 _ ?side1 ?side2 ?side3 ?side4 A25.out).mono ?_); (case side1 => repeat (first | exact (Kd.R_reads' HO254.out).2.2 | (with_reducible refine Kd.C_alloc ?_ _) | (with_reducible refine Kd.C_drewN ?_ _) | (with_reducible refine Kd.C_drew ?_))); (case side2 => exact (Kd.R_reads' HO254.out).2.1); (case side3 => repeat (first | exact (Kd.R_reads' HO249.out).2.2 | (with_reducible refine Kd.C_alloc ?_ _) | (with_reducible refine Kd.C_drewN ?_ _) | (with_reducible refine Kd.C_drew ?_))); (case side4 => exact (Kd.R_reads' HO249.out).2.1); rintro e w' ⟨rfl, ⟨nd, rfl⟩⟩))
                go_ret
                exact ⟨by first | rfl | (simp [errW_none, errW_some] <;> rfl) | (simp [*, errW_none, errW_some] <;> rfl), by repeat (first | (with_reducible first | exact HB.out | apply below_alloc | apply pw_below_drewN | apply below_drew1) | exact HB.out)⟩
              · replace c23 := Bool.eq_false_iff.mpr c23
                subst c23
                have H1 : (some false) = some r := by rw [if_neg (show ¬ (false = true) by decide)] at H; exact H
                clear H
                have H := H1
                clear H1
                exact absurd (H.trans (congrArg some hT_)) (by simp)
            · replace c21 := Bool.eq_false_iff.mpr c21
              subst c21
              have H1 : (some false) = some r := by rw [if_neg (show ¬ (false = true) by decide)] at H; exact H
              clear H
              have H := H1
              clear H1
              exact absurd (H.trans (congrArg some hT_)) (by simp)
          · rw [if_neg c19] at H
            have c19b0 : (t236 == t244) = false := beq_eq_false_iff_ne.mpr c19
            have c19b1 : (t236 != t244) = true := bne_iff_ne.mpr c19
            exact absurd (H.trans (congrArg some hT_)) (by simp)
        · rw [if_neg c18] at H
          have c18b0 : (t232 == t240) = false := beq_eq_false_iff_ne.mpr c18
          have c18b1 : (t232 != t240) = true := bne_iff_ne.mpr c18
          exact absurd (H.trans (congrArg some hT_)) (by simp)

/-- THE ONE PURE STATEMENT of bakelaw2_GcrWrites. -/
def bakelaw2_GcrWrites.Pure : Prop := ∀ (x0 : List Int) (x1 : List Int) (x2 : Int), (∀ y0 ∈ x0, ((Lit.int .u8 y0).wf = true)) → (x0.length * 1 ≤ 140737488351232 ∧ ∀ y0 ∈ x0, (True)) → (∀ y0 ∈ x1, ((Lit.int .i64 y0).wf = true)) → (x1.length * 8 ≤ 140737488351232 ∧ ∀ y0 ∈ x1, (True)) → (Lit.int .i64 x2).wf = true → ∃ k, bakelaw2_GcrWrites.f k x0 x1 x2 = some true

end Go.Proofs.Ytmedmifkeliepaa.PGcrWrites
