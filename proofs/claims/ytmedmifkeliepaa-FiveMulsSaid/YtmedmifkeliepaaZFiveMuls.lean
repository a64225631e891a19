/-
  Products, quotients and comparisons of numbers of five bytes, as the program and the reference have them. Conditions stand in each lemma.
-/
import Derived.Test.YtmedmifkeliepaaZFmPack
import Derived.Test.YtmedmifkeliepaaPFiveMulsx0
import Derived.Test.YtmedmifkeliepaaPFiveMulsx1
import Derived.Test.YtmedmifkeliepaaPFiveMulsx2
import Derived.Test.YtmedmifkeliepaaPFiveMulsx3
import Derived.Test.YtmedmifkeliepaaPFiveMulsx4
import Derived.Test.YtmedmifkeliepaaPFiveMulsx5
import Derived.Test.YtmedmifkeliepaaPFiveMulsx6
import Derived.Test.YtmedmifkeliepaaPFiveMulsx7
import Derived.Test.YtmedmifkeliepaaPFiveMulsx8
import Derived.Test.YtmedmifkeliepaaPFiveMulsx9
import Derived.Test.YtmedmifkeliepaaPFiveMulsx10
set_option linter.unusedVariables false
set_option linter.unusedSimpArgs false
namespace Go.Proofs.Ytmedmifkeliepaa.BkFiveMuls
open Go Go.RowKit Go.Proofs.YtmedmifkeliepaaW.PrintWords Go.Proofs.YtmedmifkeliepaaW.PrintLast Go.Proofs.YtmedmifkeliepaaW.PrintMore Go.Proofs.Ytmedmifkeliepaa.PFiveMuls Go.Proofs.Ytmedmifkeliepaa.Bk
theorem begun_ev : Ev (fun k => bakelaw2_fiveBegun.f k) true := by
  obtain ⟨L, l1, l2, p0, p1, hp⟩ := pack_ev false false 1 0 (by decide) (by decide) (by omega)
  have hL : L = 1 := by
    rcases Nat.lt_or_ge 1 L with h | h
    · have := Nat.pow_le_pow_right (n := 2) (by decide) (show 1 ≤ L - 1 by omega)
      omega
    · omega
  subst hL
  have hv : (if 1 ≤ 32 then rnd false (0 + (((1 : Nat) : Int) - 32)) (1 * 2 ^ (32 - 1)) false else rnd false (0 + (((1 : Nat) : Int) - 32)) (1 / 2 ^ (1 - 32)) (upP (1 % 2 ^ (1 - 32)) (2 ^ (1 - 33)) (1 / 2 ^ (1 - 32)) false)) = (129, 0, 0, 0, 0, 0) := by decide
  rw [hv] at hp
  unfold bakelaw2_fiveBegun.f
  refine Ev.bind (a := (129, 0, 0, 0, 0, 0)) ?_ (Ev.all fun k => rfl)
  unfold five_Of.f
  refine Ev.neg (by decide) ?_
  have hw : IntKind.u64.wrap 1 = ((1 : Nat) : Int) := wu64 1 (by omega) (by omega)
  rw [hw]
  exact Ev.bind hp (Ev.all fun k => rfl)
theorem mul_loop (s t : Bool) (A : List Int) (x y : Int) (M : Nat) (r : Int × Int × Int × Int × Int × Int) (hM : M < 4294967296) (hr : Ev (fun k => (bakeref2_nat_times.f k A (M : Int)).bind fun t239 => ((bakeref2_nearest.f k (s != t) t239 (([1] : List Int)) (wrap64 (x + y))).bind fun bt245 => (some (bt245.1, bt245.2.1, bt245.2.2.1, bt245.2.2.2.1, bt245.2.2.2.2.1, bt245.2.2.2.2.2)))) r) : ∀ (n : Nat) (p q : List Int), p.length = n → dig M = p ++ q → Ev (fun k => bakeref2_FiveTimes.l0 k s A x t (dig M) y (val q) ((n : Int) - 1)) r
  | 0, p, q, hp, h => by
    have e1 : p = [] := List.eq_nil_of_length_eq_zero hp
    subst e1
    rw [List.nil_append] at h
    have hv : val q = (M : Int) := by rw [← h, val_dig]
    rw [hv]
    refine Ev.step (fun k => ?_) hr
    simp only [bakeref2_FiveTimes.l0]
    rw [if_neg (by omega)]
  | n + 1, p, q, hp, h => by
    rcases nil_or_snoc p with e1 | ⟨p', z, e1⟩
    · rw [e1] at hp; simp at hp
    subst e1
    have hp' : p'.length = n := by simpa using hp
    rw [List.append_assoc] at h
    have hl := dig_len_of M (sm_pow (Nat.lt_trans hM (by decide)))
    have m1 := at_mid (l := dig M) (pre := p') (x := z) (suf := q) h (by omega)
    rw [hp'] at m1
    have ih := mul_loop s t A x y M r hM hr n p' (z :: q) hp' h
    have hi : (((n + 1 : Nat) : Int) - 1) = (n : Int) := by omega
    have hv := val_dig M
    have hd := dig_dig M
    rw [h] at hv hd
    rw [val_append] at hv
    have b1 := val_bound p' (fun d hd' => hd d (by simp [hd']))
    have b2 := val_bound q (fun d hd' => hd d (by simp [hd']))
    have b3 := hd z (by simp)
    have hpp : (1 : Int) ≤ 10000 ^ p'.length := by have : (0 : Int) < 10000 ^ p'.length := Int.pow_pos (by decide); omega
    have hb : z + 10000 * val q ≤ (M : Int) := by
      have hv2 : val p' + 10000 ^ p'.length * (z + 10000 * val q) = (M : Int) := hv
      have h0 : 0 ≤ z + 10000 * val q := by have := b2.1; omega
      have := Int.mul_le_mul_of_nonneg_right hpp h0
      have b10 := b1.1
      generalize 10000 ^ p'.length * (z + 10000 * val q) = w at *
      omega
    have b20 := b2.1
    have hw : wrap64 ((wrap64 (10000 * val q)) + z) = val (z :: q) := by
      show _ = z + 10000 * val q
      generalize val q = w at *
      rw [w64 (10000 * w) (by omega) (by omega), w64 _ (by omega) (by omega)]; omega
    rw [hi]
    refine Ev.step (fun k => ?_) ih
    simp only [bakeref2_FiveTimes.l0]
    rw [if_pos m1.1, if_pos m1.1, if_pos m1.2.1, m1.2.2.1, hw]
    congr 1
    exact w64 _ (by have := m1.1; omega) (by have := m1.2.1; omega)
theorem pack_zero (neg more : Bool) (e : Int) : Ev (fun k => five_pack.f k neg 0 e more) (0, 0, 0, 0, 0, 0) := by
  unfold five_pack.f
  exact Ev.pos rfl (Ev.all fun k => rfl)
theorem ab_lt (a b : Nat) (ha : a < 4294967296) (hb : b < 4294967296) : a * b < 18446744073709551616 := by
  have h1 : a * b ≤ 4294967295 * 4294967295 := Nat.mul_le_mul (by omega) (by omega)
  exact Nat.lt_of_le_of_lt h1 (by decide)
/-- The product of two numbers that are not 0, both ways. -/
theorem mul_core (s t : Bool) (a b : Nat) (x y : Int) (ha0 : 2147483648 ≤ a) (ha1 : a < 4294967296) (hb0 : 2147483648 ≤ b) (hb1 : b < 4294967296) (hx : -159 ≤ x ∧ x ≤ 95) (hy : -159 ≤ y ∧ y ≤ 95) :
    ∃ r, Ev (fun k => five_pack.f k (s != t) (IntKind.u64.wrap ((a : Int) * (b : Int))) (wrap64 (x + y)) false) r ∧ Ev (fun k => bakeref2_FiveTimes.l0 k s (dig a) x t (dig b) y 0 (wrap64 (((dig b).length : Int) - 1))) r := by
  have hab := ab_lt a b ha1 hb1
  have hpos : 0 < a * b := Nat.mul_pos (by omega) (by omega)
  have w1 : IntKind.u64.wrap ((a : Int) * (b : Int)) = ((a * b : Nat) : Int) := by
    rw [← Int.natCast_mul]
    generalize a * b = z at hab ⊢
    exact wu64 _ (by omega) (by omega)
  have w2 : wrap64 (x + y) = x + y := w64 _ (by omega) (by omega)
  obtain ⟨r, r1, r2⟩ := near_pack (s != t) (a * b) (x + y) hpos hab (by omega)
  rw [w1, w2]
  refine ⟨r, r1, ?_⟩
  have hl := dig_len_of b (sm_pow (Nat.lt_trans hb1 (by decide)))
  have w3 : wrap64 (((dig b).length : Int) - 1) = ((dig b).length : Int) - 1 := w64 _ (by omega) (by omega)
  rw [w3]
  refine mul_loop s t (dig a) x y b r hb1 ?_ (dig b).length (dig b) [] rfl (by simp)
  rw [w2]
  have ht := times_ev a b (by omega) (by omega) (sm_pow (Nat.lt_trans ha1 (by decide))) (sm_pow (by rw [Nat.mul_comm]; exact Nat.lt_trans hab (by decide)))
  rw [Nat.mul_comm] at ht
  exact Ev.bind ht (Ev.bind r2 (Ev.all fun k => rfl))
theorem mul_ev (a0 a1 a2 a3 a4 c0 c1 c2 c3 c4 : Int) (ba : B5 a0 a1 a2 a3 a4) (bc : B5 c0 c1 c2 c3 c4) : ∃ r, Ev (fun k => five_Mul.f k a0 a1 a2 a3 a4 c0 c1 c2 c3 c4) r ∧ Ev (fun k => bakeref2_FiveTimes.f k a0 a1 a2 a3 a4 c0 c1 c2 c3 c4) r := by
  have hE := err_ev a0 a1 a2 a3 a4 ba.b1 ba.b2 ba.b3 ba.b4
  have hF := err_ev c0 c1 c2 c3 c4 bc.b1 bc.b2 bc.b3 bc.b4
  have hB := both_ev a0 a1 a2 a3 a4 c0 c1 c2 c3 c4
  have hj : ∀ (e : Int) (k : Nat), bakeref2_FiveTimes.j0 (k + 1) e true a0 a1 a2 a3 a4 c0 c1 c2 c3 c4 = some (0, 0, 0, 0, 0, e) := fun e k => by simp only [bakeref2_FiveTimes.j0]; rfl
  by_cases e1 : chk a0 a1 a2 a3 a4 = 0
  · rw [if_pos e1] at hB
    by_cases e2 : chk c0 c1 c2 c3 c4 = 0
    · rw [e2] at hB hF
      have pA := parts_ev a0 a1 a2 a3 a4 ba.b0 ba.b1 ba.b2 ba.b3 ba.b4
      have pC := parts_ev c0 c1 c2 c3 c4 bc.b0 bc.b1 bc.b2 bc.b3 bc.b4
      have mA := mant_b (vv_cast ba.b1 ba.b2 ba.b3 ba.b4).2
      have mC := mant_b (vv_cast bc.b1 bc.b2 bc.b3 bc.b4).2
      have sA := split_ev a0 a1 a2 a3 a4 ba.b0 ba.b1 ba.b2 ba.b3 ba.b4
      have sC := split_ev c0 c1 c2 c3 c4 bc.b0 bc.b1 bc.b2 bc.b3 bc.b4
      have w0 : IntKind.u64.wrap 0 = 0 := wu64 0 (by decide) (by decide)
      by_cases z1 : a0 = 0
      · rw [if_pos z1] at pA
        refine ⟨(0, 0, 0, 0, 0, 0), ?_, ?_⟩
        · unfold five_Mul.f
          refine Ev.bind (Ev.all fun k => hB) (Ev.pos rfl (Ev.bind (Ev.all fun k => pA) (Ev.bind (Ev.all fun k => pC) (Ev.bind (a := (0, 0, 0, 0, 0, 0)) ?_ (Ev.all fun k => rfl)))))
          dsimp only
          rw [Int.zero_mul, w0]
          exact pack_zero _ _ _
        · unfold bakeref2_FiveTimes.f
          exact Ev.bind (Ev.all fun k => hE) (Ev.pos e1 (Ev.bind (Ev.all fun k => hF) (Ev.pos rfl (Ev.pos z1 (Ev.done fun k => hj 0 k)))))
      · rw [if_neg z1] at pA
        by_cases z2 : c0 = 0
        · rw [if_pos z2] at pC
          refine ⟨(0, 0, 0, 0, 0, 0), ?_, ?_⟩
          · unfold five_Mul.f
            refine Ev.bind (Ev.all fun k => hB) (Ev.pos rfl (Ev.bind (Ev.all fun k => pA) (Ev.bind (Ev.all fun k => pC) (Ev.bind (a := (0, 0, 0, 0, 0, 0)) ?_ (Ev.all fun k => rfl)))))
            dsimp only
            rw [Int.mul_zero, w0]
            exact pack_zero _ _ _
          · unfold bakeref2_FiveTimes.f
            refine Ev.bind (Ev.all fun k => hE) (Ev.pos e1 (Ev.bind (Ev.all fun k => hF) (Ev.pos rfl (Ev.neg z1 ?_))))
            rw [show (c0 == 0) = true by simpa using z2]
            exact Ev.done fun k => hj 0 k
        · rw [if_neg z2] at pC
          have ba0 := ba.b0
          have bc0 := bc.b0
          unfold By at ba0 bc0
          have hx : -159 ≤ a0 - 160 ∧ a0 - 160 ≤ 95 := by omega
          have hy : -159 ≤ c0 - 160 ∧ c0 - 160 ≤ 95 := by omega
          generalize a0 - 160 = x at *
          generalize c0 - 160 = y at *
          generalize mant (vv a1 a2 a3 a4) = a at *
          generalize mant (vv c1 c2 c3 c4) = b at *
          generalize decide (2147483648 ≤ vv a1 a2 a3 a4) = s at *
          generalize decide (2147483648 ≤ vv c1 c2 c3 c4) = t at *
          obtain ⟨r, r1, r2⟩ := mul_core s t a b x y mA.1 mA.2 mC.1 mC.2 hx hy
          refine ⟨r, ?_, ?_⟩
          · unfold five_Mul.f
            exact Ev.bind (Ev.all fun k => hB) (Ev.pos rfl (Ev.bind (Ev.all fun k => pA) (Ev.bind (Ev.all fun k => pC) (Ev.bind r1 (Ev.all fun k => rfl)))))
          · unfold bakeref2_FiveTimes.f
            refine Ev.bind (Ev.all fun k => hE) (Ev.pos e1 (Ev.bind (Ev.all fun k => hF) (Ev.pos rfl (Ev.neg z1 ?_))))
            rw [show (c0 == 0) = false by simpa using z2]
            refine Ev.step (f := fun k => (bakeref2_split.f k a0 a1 a2 a3 a4).bind fun bt228 => ((bakeref2_split.f k c0 c1 c2 c3 c4).bind fun bt233 => (bakeref2_FiveTimes.l0 k bt228.1 bt228.2.1 bt228.2.2 bt233.1 bt233.2.1 bt233.2.2 0 (wrap64 ((bt233.2.1.length : Int) - 1))))) (fun k => ?_) (Ev.bind sA (Ev.bind sC r2))
            simp only [bakeref2_FiveTimes.j0]
            rfl
    · refine ⟨(0, 0, 0, 0, 0, chk c0 c1 c2 c3 c4), ?_, ?_⟩
      · unfold five_Mul.f
        exact Ev.bind (Ev.all fun k => hB) (Ev.neg e2 (Ev.all fun k => rfl))
      · unfold bakeref2_FiveTimes.f
        exact Ev.bind (Ev.all fun k => hE) (Ev.pos e1 (Ev.bind (Ev.all fun k => hF) (Ev.neg e2 (Ev.done fun k => hj _ k))))
  · rw [if_neg e1] at hB
    refine ⟨(0, 0, 0, 0, 0, chk a0 a1 a2 a3 a4), ?_, ?_⟩
    · unfold five_Mul.f
      exact Ev.bind (Ev.all fun k => hB) (Ev.neg e1 (Ev.all fun k => rfl))
    · unfold bakeref2_FiveTimes.f
      exact Ev.bind (Ev.all fun k => hE) (Ev.neg e1 (Ev.all fun k => rfl))
theorem lz_ev (b : Nat) (h0 : 2147483648 ≤ b) (h1 : b < 4294967296) : Ev (fun k => bits_LeadingZeros64.f k (b : Int)) 32 := by
  obtain ⟨L, l1, l2, p0, p1, e⟩ := len64_ev b (by omega) (by omega)
  have hL : L = 32 := by
    have q0 : 31 < L := (Nat.pow_lt_pow_iff_right (a := 2) (by decide)).1 (Nat.lt_of_le_of_lt h0 p1)
    have q1 : L - 1 < 32 := (Nat.pow_lt_pow_iff_right (a := 2) (by decide)).1 (Nat.lt_of_le_of_lt p0 h1)
    omega
  subst hL
  unfold bits_LeadingZeros64.f
  refine Ev.bind e (Ev.all fun k => ?_)
  rw [w64 _ (by decide) (by decide)]
  rfl
theorem wrap_diff (U P r : Nat) (hU : U = P + r) (hr : r < 4294967296) : IntKind.u64.wrap ((IntKind.u64.wrap ((IntKind.u64.wrap ((U : Int) * 4294967296)) + 0)) - (IntKind.u64.wrap ((P : Int) * 4294967296))) = (r : Int) * 4294967296 := by
  rw [IntKind.wrap_u64, IntKind.wrap_u64, IntKind.wrap_u64, IntKind.wrap_u64, Int.add_zero, Int.emod_emod_of_dvd _ (Int.dvd_refl _), ← Int.sub_emod, hU, Int.natCast_add, Int.add_mul, show (P : Int) * 4294967296 + (r : Int) * 4294967296 - (P : Int) * 4294967296 = (r : Int) * 4294967296 by omega]
  exact Int.emod_eq_of_lt (by omega) (by omega)
theorem rest_num (U P r : Nat) (h : U = P + r) (hU : U < 18446744073709551616) : IntKind.u64.wrap ((U : Int) - (IntKind.u64.wrap (P : Int))) = (r : Int) := by
  rw [wu64 (P : Int) (by omega) (by omega), wu64 _ (by omega) (by omega)]
  omega
theorem div_l1 (b B q0 r0 U q1 : Nat) (hb0 : 0 < b) (hb1 : b < 4294967296) (hB : B = b * 4294967296) (hU : U = q0 * b + r0) (hU2 : U < b * 4294967296) (hr0 : r0 < b) (hq1 : q1 < 8) :
    Ev (fun k => bits_Div64.l1 k (B : Int) 32 (b : Int) 0 0 (q1 : Int) (r0 : Int) (U : Int) (q0 : Int)) (((q1 * 4294967296 + q0 : Nat) : Int), (r0 : Int)) := by
  have hq0 : q0 < 4294967296 := by
    have : q0 * b < 4294967296 * b := by rw [Nat.mul_comm 4294967296]; omega
    exact Nat.lt_of_mul_lt_mul_right this
  have c1 : IntKind.u64.wrap ((q0 : Int) * 0) = 0 := by rw [Int.mul_zero]; exact wu64 0 (by decide) (by decide)
  have c2 : IntKind.u64.wrap ((IntKind.u64.wrap (4294967296 * (r0 : Int))) + 0) = 4294967296 * (r0 : Int) := by rw [wu64 (4294967296 * (r0 : Int)) (by omega) (by omega), wu64 _ (by omega) (by omega)]; omega
  have c3 : IntKind.u64.wrap ((IntKind.u64.wrap ((q1 : Int) * 4294967296)) + (q0 : Int)) = ((q1 * 4294967296 + q0 : Nat) : Int) := by rw [wu64 ((q1 : Int) * 4294967296) (by omega) (by omega), wu64 _ (by omega) (by omega)]; omega
  have hP : ((q0 : Int) * (B : Int)) = ((q0 * b : Nat) : Int) * 4294967296 := by rw [hB]; simp [Int.mul_assoc]
  have c4 : IntKind.u64.wrap ((IntKind.u64.wrap ((IntKind.u64.wrap ((U : Int) * 4294967296)) + 0)) - (IntKind.u64.wrap ((q0 : Int) * (B : Int)))) = (r0 : Int) * 4294967296 := by
    rw [hP]
    exact wrap_diff U (q0 * b) r0 hU (by omega)
  have c5 : shr .u64 ((r0 : Int) * 4294967296) 32 = (r0 : Int) := by
    unfold shr
    have h : (r0 : Int) * 4294967296 / 2 ^ min (32 : Int).toNat IntKind.u64.bits = (r0 : Int) * 4294967296 / 4294967296 := rfl
    rw [h]; omega
  have g1 : ¬ (q0 : Int) ≥ 4294967296 := by omega
  have g2 : ¬ (0 : Int) > 4294967296 * (r0 : Int) := by omega
  refine Ev.step (f := fun k => bits_Div64.j4 k (B : Int) 32 (b : Int) 0 0 (q1 : Int) (r0 : Int) (U : Int) (q0 : Int) false) (fun k => ?_) (Ev.done fun k => ?_)
  · simp only [bits_Div64.l1]
    rw [if_neg g1, c1, c2, decide_eq_false g2]
  · simp only [bits_Div64.j4]
    rw [if_neg (by decide), if_pos (by decide), c3, c4, c5]
theorem div_l0 (a b B q1 rh q0 r0 : Nat) (ha : a < 4294967296) (hb0 : 2147483648 ≤ b) (hb1 : b < 4294967296) (hB : B = b * 4294967296) (h1 : 4 * a = q1 * b + rh) (hrh : rh < b) (h2 : rh * 4294967296 = q0 * b + r0) (hr0 : r0 < b) :
    Ev (fun k => bits_Div64.l0 k (B : Int) 32 (b : Int) 0 ((4 * a : Nat) : Int) 0 0 (q1 : Int) (rh : Int)) (((q1 * 4294967296 + q0 : Nat) : Int), (r0 : Int)) := by
  have hq1 : q1 < 8 := by
    have : q1 * b < 8 * b := by omega
    exact Nat.lt_of_mul_lt_mul_right this
  have hU2 : rh * 4294967296 < b * 4294967296 := by omega
  have d0 : rh * 4294967296 / b = q0 := by rw [h2, Nat.mul_comm q0, Nat.mul_add_div (by omega), Nat.div_eq_of_lt hr0, Nat.add_zero]
  have hq0 : q0 < 4294967296 := by
    have : q0 * b < 4294967296 * b := by rw [Nat.mul_comm 4294967296]; omega
    exact Nat.lt_of_mul_lt_mul_right this
  have hl1 := div_l1 b B q0 r0 (rh * 4294967296) q1 (by omega) hb1 hB h2 hU2 hr0 hq1
  have c1 : IntKind.u64.wrap ((q1 : Int) * 0) = 0 := by rw [Int.mul_zero]; exact wu64 0 (by decide) (by decide)
  have c2 : IntKind.u64.wrap ((IntKind.u64.wrap (4294967296 * (rh : Int))) + 0) = 4294967296 * (rh : Int) := by rw [wu64 (4294967296 * (rh : Int)) (by omega) (by omega), wu64 _ (by omega) (by omega)]; omega
  have hP : ((q1 : Int) * (B : Int)) = ((q1 * b : Nat) : Int) * 4294967296 := by rw [hB]; simp [Int.mul_assoc]
  have cU : IntKind.u64.wrap ((IntKind.u64.wrap ((IntKind.u64.wrap (((4 * a : Nat) : Int) * 4294967296)) + 0)) - (IntKind.u64.wrap ((q1 : Int) * (B : Int)))) = ((rh * 4294967296 : Nat) : Int) := by
    rw [hP, wrap_diff (4 * a) (q1 * b) rh h1 (by omega)]
    omega
  have cq : IntKind.u64.wrap (Int.tdiv ((rh * 4294967296 : Nat) : Int) (b : Int)) = (q0 : Int) := by rw [tdiv_nat, d0]; exact wu64 _ (by omega) (by omega)
  have cr : IntKind.u64.wrap (((rh * 4294967296 : Nat) : Int) - (IntKind.u64.wrap ((q0 : Int) * (b : Int)))) = (r0 : Int) := by
    rw [← Int.natCast_mul]
    exact rest_num (rh * 4294967296) (q0 * b) r0 h2 (by omega)
  have g1 : ¬ (q1 : Int) ≥ 4294967296 := by omega
  have g2 : ¬ (0 : Int) > 4294967296 * (rh : Int) := by omega
  have g3 : ¬ (b : Int) = 0 := by omega
  refine Ev.step (f := fun k => bits_Div64.j1 k (B : Int) 32 (b : Int) 0 ((4 * a : Nat) : Int) 0 0 (q1 : Int) (rh : Int) false) (fun k => ?_) (Ev.step (f := fun k => bits_Div64.j2 k (B : Int) 32 (b : Int) 0 ((4 * a : Nat) : Int) 0 0 (q1 : Int)) (fun k => ?_) (Ev.step (fun k => ?_) hl1))
  · simp only [bits_Div64.l0]
    rw [if_neg g1, c1, c2, decide_eq_false g2]
  · simp only [bits_Div64.j1]
    rfl
  · simp only [bits_Div64.j2]
    rw [if_neg g3, cU, cq, cr]
theorem hi_lo (a : Nat) (ha : a < 4294967296) (ha0 : 2147483648 ≤ a) : Go.bits .or .u64 (shl .u64 ((a : Int) / 1073741824) 32) (shr .u64 (IntKind.u64.wrap ((a : Int) * 17179869184)) 32) = ((4 * a : Nat) : Int) ∧ shl .u64 (IntKind.u64.wrap ((a : Int) * 17179869184)) 32 = 0 := by
  have e1 : shl .u64 ((a : Int) / 1073741824) 32 = (((a / 1073741824) * 4294967296 : Nat) : Int) := by
    have := shlU (a / 1073741824) 32 (by decide) (by omega)
    exact this
  have hw : IntKind.u64.wrap ((a : Int) * 17179869184) = ((a * 17179869184 % 18446744073709551616 : Nat) : Int) := by rw [IntKind.wrap_u64]; omega
  have e2 : shr .u64 ((a * 17179869184 % 18446744073709551616 : Nat) : Int) 32 = ((a * 17179869184 % 18446744073709551616 / 4294967296 : Nat) : Int) := by
    have := shrU (a * 17179869184 % 18446744073709551616) 32 (by decide)
    exact this
  have e3 : shl .u64 ((a * 17179869184 % 18446744073709551616 : Nat) : Int) 32 = 0 := by
    unfold shl
    have h : ((a * 17179869184 % 18446744073709551616 : Nat) : Int) * 2 ^ min (32 : Int).toNat IntKind.u64.bits = ((a * 17179869184 % 18446744073709551616 : Nat) : Int) * 4294967296 := rfl
    rw [h, IntKind.wrap_u64]
    omega
  rw [hw, e1, e2, e3]
  refine ⟨?_, rfl⟩
  rw [bits_join .u64 64 (by decide) wraps_u64 32 _ _ (by omega) (by omega) (by omega) (by omega) (by omega) (by omega)]
  omega
theorem div64_ev (a b : Nat) (ha0 : 2147483648 ≤ a) (ha1 : a < 4294967296) (hb0 : 2147483648 ≤ b) (hb1 : b < 4294967296) :
    Ev (fun k => bits_Div64.f k ((a : Int) / 1073741824) (IntKind.u64.wrap ((a : Int) * 17179869184)) (b : Int)) (((a * 17179869184 / b : Nat) : Int), ((a * 17179869184 % b : Nat) : Int)) := by
  have h1 := Nat.div_add_mod (4 * a) b
  have hrh := Nat.mod_lt (4 * a) (show 0 < b by omega)
  have h2 := Nat.div_add_mod (4 * a % b * 4294967296) b
  have hr0 := Nat.mod_lt (4 * a % b * 4294967296) (show 0 < b by omega)
  have hl := div_l0 a b (b * 4294967296) (4 * a / b) (4 * a % b) (4 * a % b * 4294967296 / b) (4 * a % b * 4294967296 % b) ha1 hb0 hb1 rfl (by rw [Nat.mul_comm (4 * a / b)]; exact h1.symm) hrh (by rw [Nat.mul_comm (4 * a % b * 4294967296 / b)]; exact h2.symm) hr0
  have hdm : a * 17179869184 / b = 4 * a / b * 4294967296 + 4 * a % b * 4294967296 / b ∧ a * 17179869184 % b = 4 * a % b * 4294967296 % b := by
    have e : a * 17179869184 = b * (4 * a / b * 4294967296) + 4 * a % b * 4294967296 := by
      rw [← Nat.mul_assoc]
      generalize b * (4 * a / b) = z at h1 ⊢
      generalize 4 * a % b = y at h1 ⊢
      omega
    rw [e, Nat.mul_add_div (by omega), Nat.mul_add_mod]
    exact ⟨rfl, rfl⟩
  rw [hdm.1, hdm.2]
  obtain ⟨o1, o2⟩ := hi_lo a ha1 ha0
  have hsb : shl .u64 (b : Int) 32 = ((b * 4294967296 : Nat) : Int) := by
    have := shlU b 32 (by decide) (by omega)
    exact this
  have w32 : IntKind.u64.wrap 32 = 32 := wu64 _ (by decide) (by decide)
  have w64' : IntKind.u64.wrap (64 - 32) = 32 := wu64 _ (by decide) (by decide)
  have dB : ((b * 4294967296 : Nat) : Int) / 4294967296 = (b : Int) := by omega
  have mB : Go.bits .and .u64 ((b * 4294967296 : Nat) : Int) 4294967295 = 0 := by
    have := bits_mask .u64 64 (by decide) wraps_u64 32 (by decide) ((b * 4294967296 : Nat) : Int) (by omega) (by omega)
    rw [show ((2 : Int) ^ 32 - 1) = 4294967295 from rfl] at this
    rw [this]; omega
  have m0 : Go.bits .and .u64 0 4294967295 = 0 := by
    have := bits_mask .u64 64 (by decide) wraps_u64 32 (by decide) 0 (by decide) (by decide)
    rw [show ((2 : Int) ^ 32 - 1) = 4294967295 from rfl] at this
    rw [this]; rfl
  have q1 : IntKind.u64.wrap (Int.tdiv ((4 * a : Nat) : Int) (b : Int)) = ((4 * a / b : Nat) : Int) := by
    have := Nat.div_le_self (4 * a) b
    rw [tdiv_nat]
    generalize 4 * a / b = z at this ⊢
    exact wu64 _ (by omega) (by omega)
  have r1 : IntKind.u64.wrap (((4 * a : Nat) : Int) - (IntKind.u64.wrap (((4 * a / b : Nat) : Int) * (b : Int)))) = ((4 * a % b : Nat) : Int) := by
    rw [← Int.natCast_mul]
    rw [Nat.mul_comm] at h1
    generalize 4 * a % b = y at h1 ⊢
    generalize 4 * a / b * b = z at h1 ⊢
    rw [wu64 (z : Int) (by omega) (by omega), wu64 _ (by omega) (by omega)]
    omega
  unfold bits_Div64.f
  refine Ev.neg (by omega) (Ev.neg (by omega) (Ev.neg (by omega) (Ev.bind (lz_ev b hb0 hb1) ?_)))
  rw [w32, w64', hsb, dB, mB, o1, o2, m0, q1, r1]
  exact Ev.pos (by decide) (Ev.pos (by decide) (Ev.neg (by omega) hl))
theorem updiv (b n rest r R q : Nat) (hn : 1 ≤ n) (hb : 0 < b) (hr : r < b) (h : R * 2 ^ n = rest * b + r) : upB (2 * R) b q = upP rest (2 ^ (n - 1)) q (((r : Int)) != 0) := by
  have hp : 2 ^ n = 2 * 2 ^ (n - 1) := by rw [show n = (n - 1) + 1 by omega, Nat.pow_succ, Nat.mul_comm]; simp
  have hz : 0 < 2 ^ (n - 1) := Nat.pow_pos (by decide)
  rw [hp] at h
  generalize 2 ^ (n - 1) = z at *
  have h' : 2 * R * z = rest * b + r := by rw [← h, Nat.mul_left_comm R 2 z, Nat.mul_assoc 2 R z]
  clear h
  have k1 : b < 2 * R ↔ b * z < 2 * R * z := (Nat.mul_lt_mul_right hz).symm
  have k2 : 2 * R < b ↔ 2 * R * z < b * z := (Nat.mul_lt_mul_right hz).symm
  rw [h', Nat.mul_comm b z] at k1 k2
  unfold upB upP
  have hb2 : ((r : Int) != 0) = true ↔ r ≠ 0 := by rw [bne_iff_ne]; omega
  by_cases c1 : z < rest
  · have e := Nat.mul_le_mul_right b (show z + 1 ≤ rest from c1)
    rw [Nat.add_mul, Nat.one_mul] at e
    rw [if_pos c1, if_pos (k1.2 (by omega))]
  · by_cases c2 : rest = z
    · subst c2
      rw [if_neg c1, if_pos rfl]
      by_cases c3 : r = 0
      · rw [if_neg (fun h => by have := k1.1 h; omega), if_neg (fun h => by have := k2.1 h; omega), if_neg (fun h => hb2.1 h c3)]
      · rw [if_pos (k1.2 (by omega)), if_pos (hb2.2 c3)]
    · have e := Nat.mul_le_mul_right b (show rest + 1 ≤ z by omega)
      rw [Nat.add_mul, Nat.one_mul] at e
      rw [if_neg c1, if_neg c2, if_neg (fun h => by have := k1.1 h; omega), if_pos (k2.2 (by omega))]
theorem div_core (neg : Bool) (a b : Nat) (e : Int) (ha0 : 2147483648 ≤ a) (ha1 : a < 4294967296) (hb0 : 2147483648 ≤ b) (hb1 : b < 4294967296) (he : -1000 ≤ e ∧ e ≤ 1000) :
    ∃ r, Ev (fun k => five_pack.f k neg ((a * 17179869184 / b : Nat) : Int) (e - 34) (((a * 17179869184 % b : Nat) : Int) != 0)) r ∧ Ev (fun k => bakeref2_nearest.f k neg (dig a) (dig b) e) r := by
  have hd := Nat.div_add_mod (a * 17179869184) b
  have hrb := Nat.mod_lt (a * 17179869184) (show 0 < b by omega)
  have hQ0 : 8589934592 ≤ a * 17179869184 / b := by rw [Nat.le_div_iff_mul_le (by omega)]; omega
  have hQ1 : a * 17179869184 / b < 34359738368 := by rw [Nat.div_lt_iff_lt_mul (by omega)]; omega
  generalize a * 17179869184 / b = Q at *
  generalize a * 17179869184 % b = r at *
  obtain ⟨L, l1, l2, p0, p1, hp⟩ := pack_ev neg (((r : Nat) : Int) != 0) Q (e - 34) (by omega) (by omega) (by omega)
  have hL0 : 33 < L := (Nat.pow_lt_pow_iff_right (a := 2) (by decide)).1 (Nat.lt_of_le_of_lt (show 2 ^ 33 ≤ Q by omega) p1)
  have hL1 : L - 1 < 35 := (Nat.pow_lt_pow_iff_right (a := 2) (by decide)).1 (Nat.lt_of_le_of_lt p0 (show Q < 2 ^ 35 by omega))
  rw [if_neg (by omega)] at hp
  refine ⟨_, hp, ?_⟩
  have hq0 : 2147483648 ≤ Q / 2 ^ (L - 32) := by
    rw [Nat.le_div_iff_mul_le (Nat.pow_pos (by decide)), show (2147483648 : Nat) = 2 ^ 31 from rfl, ← Nat.pow_add, show 31 + (L - 32) = L - 1 by omega]
    exact p0
  have hq1 : Q / 2 ^ (L - 32) < 4294967296 := by
    rw [Nat.div_lt_iff_lt_mul (Nat.pow_pos (by decide)), show (4294967296 : Nat) = 2 ^ 32 from rfl, ← Nat.pow_add, show 32 + (L - 32) = L by omega]
    exact p1
  have hm := Nat.div_add_mod Q (2 ^ (L - 32))
  have hrl := Nat.mod_lt Q (Nat.pow_pos (a := 2) (n := L - 32) (by decide))
  have hP : 2 ^ (66 - L) * 2 ^ (L - 32) = 17179869184 := by rw [← Nat.pow_add, show 66 - L + (L - 32) = 34 by omega]
  have hpn : 0 < 2 ^ (L - 32) := Nat.pow_pos (by decide)
  rw [show L - 33 = L - 32 - 1 by omega]
  have hn : 1 ≤ L - 32 := by omega
  have hi : e - ((66 - L : Nat) : Int) + ((0 : Nat) : Int) = e - 34 + ((L : Int) - 32) := by omega
  generalize Q / 2 ^ (L - 32) = q at *
  generalize Q % 2 ^ (L - 32) = rest at *
  -- a * 2^(66 - L) = q * b + R
  have hX : a * 2 ^ (66 - L) * 2 ^ (L - 32) = q * b * 2 ^ (L - 32) + (rest * b + r) := by
    rw [Nat.mul_assoc, hP, ← hd, ← hm, Nat.mul_add, Nat.add_assoc, Nat.mul_comm b rest, ← Nat.mul_assoc, Nat.mul_comm b, Nat.mul_comm (2 ^ (L - 32) * b), Nat.mul_comm (2 ^ (L - 32)) b, ← Nat.mul_assoc]
  have hle : q * b ≤ a * 2 ^ (66 - L) := Nat.le_of_mul_le_mul_right (show q * b * 2 ^ (L - 32) ≤ a * 2 ^ (66 - L) * 2 ^ (L - 32) by omega) hpn
  obtain ⟨R, hR⟩ : ∃ R, a * 2 ^ (66 - L) = q * b + R := ⟨_, (Nat.add_sub_of_le hle).symm⟩
  have hRn : R * 2 ^ (L - 32) = rest * b + r := by
    rw [hR, Nat.add_mul] at hX
    omega
  have hRb : R < b := by
    have e1 : rest * b + r < b * 2 ^ (L - 32) := by
      have := Nat.mul_le_mul_right b (show rest + 1 ≤ 2 ^ (L - 32) from hrl)
      rw [Nat.add_mul, Nat.one_mul, Nat.mul_comm (2 ^ (L - 32))] at this
      omega
    rw [← hRn] at e1
    exact Nat.lt_of_mul_lt_mul_right e1
  have h := nearest_ev neg a b (66 - L) 0 q R e (by omega) (by omega) (.inr rfl) (by rw [Nat.pow_zero, Nat.mul_one]; exact hR) (by rw [Nat.pow_zero, Nat.mul_one]; exact hRb) hq0 hq1 (sm_pow (by rw [Nat.pow_zero, Nat.mul_one]; exact Nat.lt_of_le_of_lt (Nat.mul_le_mul_right _ (Nat.le_of_lt hb1)) (by decide))) (by omega) (by omega)
  rw [Nat.pow_zero, Nat.mul_one, updiv b (L - 32) rest r R q hn (by omega) hrb hRn, hi] at h
  exact h
theorem div_ev (a0 a1 a2 a3 a4 c0 c1 c2 c3 c4 : Int) (ba : B5 a0 a1 a2 a3 a4) (bc : B5 c0 c1 c2 c3 c4) : ∃ r, Ev (fun k => five_Div.f k a0 a1 a2 a3 a4 c0 c1 c2 c3 c4) r ∧ Ev (fun k => bakeref2_FiveOver.f k a0 a1 a2 a3 a4 c0 c1 c2 c3 c4) r := by
  have hE := err_ev a0 a1 a2 a3 a4 ba.b1 ba.b2 ba.b3 ba.b4
  have hF := err_ev c0 c1 c2 c3 c4 bc.b1 bc.b2 bc.b3 bc.b4
  have hB := both_ev a0 a1 a2 a3 a4 c0 c1 c2 c3 c4
  by_cases e1 : chk a0 a1 a2 a3 a4 = 0
  · rw [if_pos e1] at hB
    by_cases e2 : chk c0 c1 c2 c3 c4 = 0
    · rw [e2] at hB
      have pA := parts_ev a0 a1 a2 a3 a4 ba.b0 ba.b1 ba.b2 ba.b3 ba.b4
      have pC := parts_ev c0 c1 c2 c3 c4 bc.b0 bc.b1 bc.b2 bc.b3 bc.b4
      have mA := mant_b (vv_cast ba.b1 ba.b2 ba.b3 ba.b4).2
      have mC := mant_b (vv_cast bc.b1 bc.b2 bc.b3 bc.b4).2
      have sA := split_ev a0 a1 a2 a3 a4 ba.b0 ba.b1 ba.b2 ba.b3 ba.b4
      have sC := split_ev c0 c1 c2 c3 c4 bc.b0 bc.b1 bc.b2 bc.b3 bc.b4
      by_cases z2 : c0 = 0
      · rw [if_pos z2] at pC
        refine ⟨(0, 0, 0, 0, 0, 11), ?_, ?_⟩
        · unfold five_Div.f
          exact Ev.bind (Ev.all fun k => hB) (Ev.pos rfl (Ev.bind (Ev.all fun k => pA) (Ev.bind (Ev.all fun k => pC) (Ev.pos rfl (Ev.all fun k => rfl)))))
        · unfold bakeref2_FiveOver.f
          exact Ev.bind (Ev.all fun k => hE) (Ev.pos e1 (Ev.bind (Ev.all fun k => hF) (Ev.pos e2 (Ev.pos z2 (Ev.all fun k => rfl)))))
      · rw [if_neg z2] at pC
        have nC : ¬ ((mant (vv c1 c2 c3 c4) : Nat) : Int) = 0 := by
          generalize mant (vv c1 c2 c3 c4) = z at mC ⊢
          omega
        by_cases z1 : a0 = 0
        · rw [if_pos z1] at pA
          refine ⟨(0, 0, 0, 0, 0, 0), ?_, ?_⟩
          · unfold five_Div.f
            exact Ev.bind (Ev.all fun k => hB) (Ev.pos rfl (Ev.bind (Ev.all fun k => pA) (Ev.bind (Ev.all fun k => pC) (Ev.neg nC (Ev.pos rfl (Ev.all fun k => rfl))))))
          · unfold bakeref2_FiveOver.f
            exact Ev.bind (Ev.all fun k => hE) (Ev.pos e1 (Ev.bind (Ev.all fun k => hF) (Ev.pos e2 (Ev.neg z2 (Ev.pos z1 (Ev.all fun k => rfl))))))
        · rw [if_neg z1] at pA
          have nA : ¬ ((mant (vv a1 a2 a3 a4) : Nat) : Int) = 0 := by
            generalize mant (vv a1 a2 a3 a4) = z at mA ⊢
            omega
          have ba0 := ba.b0
          have bc0 := bc.b0
          unfold By at ba0 bc0
          have hx : -159 ≤ a0 - 160 ∧ a0 - 160 ≤ 95 := by omega
          have hy : -159 ≤ c0 - 160 ∧ c0 - 160 ≤ 95 := by omega
          generalize a0 - 160 = x at *
          generalize c0 - 160 = y at *
          generalize mant (vv a1 a2 a3 a4) = a at *
          generalize mant (vv c1 c2 c3 c4) = b at *
          generalize decide (2147483648 ≤ vv a1 a2 a3 a4) = s at *
          generalize decide (2147483648 ≤ vv c1 c2 c3 c4) = t at *
          obtain ⟨r, r1, r2⟩ := div_core (s != t) a b (x - y) mA.1 mA.2 mC.1 mC.2 (by omega)
          have hD := div64_ev a b mA.1 mA.2 mC.1 mC.2
          have w1 : wrap64 (x - y) = x - y := w64 _ (by omega) (by omega)
          have w2 : wrap64 (x - y - 34) = x - y - 34 := w64 _ (by omega) (by omega)
          refine ⟨r, ?_, ?_⟩
          · unfold five_Div.f
            refine Ev.bind (Ev.all fun k => hB) (Ev.pos rfl (Ev.bind (Ev.all fun k => pA) (Ev.bind (Ev.all fun k => pC) (Ev.neg nC (Ev.neg nA (Ev.bind hD (Ev.bind ?_ (Ev.all fun k => rfl))))))))
            dsimp only
            rw [w1, w2]
            exact r1
          · unfold bakeref2_FiveOver.f
            refine Ev.bind (Ev.all fun k => hE) (Ev.pos e1 (Ev.bind (Ev.all fun k => hF) (Ev.pos e2 (Ev.neg z2 (Ev.neg z1 (Ev.bind sA (Ev.bind sC (Ev.bind ?_ (Ev.all fun k => rfl)))))))))
            dsimp only
            rw [w1]
            exact r2
    · refine ⟨(0, 0, 0, 0, 0, chk c0 c1 c2 c3 c4), ?_, ?_⟩
      · unfold five_Div.f
        exact Ev.bind (Ev.all fun k => hB) (Ev.neg e2 (Ev.all fun k => rfl))
      · unfold bakeref2_FiveOver.f
        exact Ev.bind (Ev.all fun k => hE) (Ev.pos e1 (Ev.bind (Ev.all fun k => hF) (Ev.neg e2 (Ev.all fun k => rfl))))
  · rw [if_neg e1] at hB
    refine ⟨(0, 0, 0, 0, 0, chk a0 a1 a2 a3 a4), ?_, ?_⟩
    · unfold five_Div.f
      exact Ev.bind (Ev.all fun k => hB) (Ev.neg e1 (Ev.all fun k => rfl))
    · unfold bakeref2_FiveOver.f
      exact Ev.bind (Ev.all fun k => hE) (Ev.neg e1 (Ev.all fun k => rfl))
def rk (a0 : Int) (v : Nat) : Int := if a0 = 0 then 0 else if 2147483648 ≤ v then -1 else 1
def ky (a0 : Int) (v : Nat) : Int := if a0 = 0 then 0 else if 2147483648 ≤ v then -(a0 * 2147483648 + (v : Int) % 2147483648) else a0 * 2147483648 + (v : Int) % 2147483648
theorem rank_ev (a0 a1 a2 a3 a4 : Int) (b : B5 a0 a1 a2 a3 a4) : five_rank.f a0 a1 a2 a3 a4 = some (rk a0 (vv a1 a2 a3 a4)) := by
  unfold five_rank.f rk
  rw [parts_ev a0 a1 a2 a3 a4 b.b0 b.b1 b.b2 b.b3 b.b4]
  have m := mant_b (vv_cast b.b1 b.b2 b.b3 b.b4).2
  by_cases h : a0 = 0
  · rw [if_pos h, if_pos h]; rfl
  · rw [if_neg h, if_neg h]
    show (if ((mant (vv a1 a2 a3 a4) : Nat) : Int) = 0 then some 0 else (if decide (2147483648 ≤ vv a1 a2 a3 a4) = true then some (-1) else some 1)) = _
    generalize mant (vv a1 a2 a3 a4) = z at m ⊢
    rw [if_neg (by omega)]
    by_cases c : 2147483648 ≤ vv a1 a2 a3 a4
    · rw [if_pos (decide_eq_true c), if_pos c]
    · rw [if_neg (by rw [decide_eq_true_iff]; exact c), if_neg c]
theorem key_num (a0 a1 a2 a3 a4 : Int) (b0 : 0 ≤ a0 ∧ a0 < 256) (b1 : 0 ≤ a1 ∧ a1 < 256) (b2 : 0 ≤ a2 ∧ a2 < 256) (b3 : 0 ≤ a3 ∧ a3 < 256) (b4 : 0 ≤ a4 ∧ a4 < 256) : wrap64 ((wrap64 ((wrap64 ((wrap64 ((wrap64 ((wrap64 a0) * 2147483648)) + (wrap64 ((wrap64 (Go.bits .and .u8 a1 127)) * 16777216)))) + (wrap64 ((wrap64 a2) * 65536)))) + (wrap64 ((wrap64 a3) * 256)))) + (wrap64 a4)) = a0 * 2147483648 + (a1 * 16777216 + a2 * 65536 + a3 * 256 + a4) % 2147483648 := by
  have m : Go.bits .and .u8 a1 127 = a1 % 128 := bits_mask .u8 8 (by decide) wraps_u8 7 (by decide) a1 b1.1 b1.2
  rw [m, w64 a0 (by omega) (by omega), w64 a2 (by omega) (by omega), w64 a3 (by omega) (by omega), w64 a4 (by omega) (by omega), w64 (a1 % 128) (by omega) (by omega), w64 (a0 * 2147483648) (by omega) (by omega), w64 (a1 % 128 * 16777216) (by omega) (by omega), w64 (a2 * 65536) (by omega) (by omega), w64 (a3 * 256) (by omega) (by omega),
    w64 (a0 * 2147483648 + a1 % 128 * 16777216) (by omega) (by omega), w64 (a0 * 2147483648 + a1 % 128 * 16777216 + a2 * 65536) (by omega) (by omega), w64 (a0 * 2147483648 + a1 % 128 * 16777216 + a2 * 65536 + a3 * 256) (by omega) (by omega), w64 _ (by omega) (by omega)]
  omega
theorem key_ev (a0 a1 a2 a3 a4 : Int) (b : B5 a0 a1 a2 a3 a4) : bakeref2_FiveCmp_1.f a0 a1 a2 a3 a4 = some (ky a0 (vv a1 a2 a3 a4)) := by
  unfold bakeref2_FiveCmp_1.f ky
  obtain ⟨hv, hv2⟩ := vv_cast b.b1 b.b2 b.b3 b.b4
  obtain ⟨b0, b1, b2, b3, b4⟩ := b
  unfold By at b0 b1 b2 b3 b4
  rw [key_num a0 a1 a2 a3 a4 b0 b1 b2 b3 b4, ← hv]
  have hs : a1 > 127 ↔ 2147483648 ≤ vv a1 a2 a3 a4 := by
    generalize vv a1 a2 a3 a4 = v at hv hv2 ⊢
    omega
  generalize vv a1 a2 a3 a4 = v at hv2 hs ⊢
  by_cases h : a0 = 0
  · rw [if_pos h, if_pos h]
  · rw [if_neg h, if_neg h]
    by_cases c : 2147483648 ≤ v
    · rw [if_pos (hs.2 c), if_pos c, w64 _ (by omega) (by omega)]
    · rw [if_neg (fun h => c (hs.1 h)), if_neg c]
theorem rk_cases (a0 : Int) (v : Nat) (ha : 0 ≤ a0 ∧ a0 < 256) (hv : v < 4294967296) : ((a0 = 0 ∧ rk a0 v = 0 ∧ ky a0 v = 0) ∨ (a0 ≠ 0 ∧ 2147483648 ≤ v ∧ rk a0 v = -1 ∧ ky a0 v = -(a0 * 2147483648 + ((v : Int) - 2147483648))) ∨ (a0 ≠ 0 ∧ v < 2147483648 ∧ rk a0 v = 1 ∧ ky a0 v = a0 * 2147483648 + (v : Int))) ∧ ((2147483648 ≤ v ∧ mant v = v) ∨ (v < 2147483648 ∧ mant v = v + 2147483648)) := by
  unfold rk ky mant
  by_cases h1 : a0 = 0 <;> by_cases h3 : 2147483648 ≤ v
  · rw [if_pos h1, if_pos h1, if_pos h3]; omega
  · rw [if_pos h1, if_pos h1, if_neg h3]; omega
  · rw [if_neg h1, if_neg h1, if_pos h3, if_pos h3, if_pos h3]; omega
  · rw [if_neg h1, if_neg h1, if_neg h3, if_neg h3, if_neg h3]; omega
theorem cmp_num (a0 c0 : Int) (v u : Nat) (ha : 0 ≤ a0 ∧ a0 < 256) (hc : 0 ≤ c0 ∧ c0 < 256) (hv : v < 4294967296) (hu : u < 4294967296) :
    (¬ rk a0 v = rk c0 u → (rk a0 v < rk c0 u → ky a0 v < ky c0 u) ∧ (¬ rk a0 v < rk c0 u → ky a0 v > ky c0 u)) ∧
    (rk a0 v = rk c0 u → a0 ≠ 0 → c0 ≠ 0 ∧ ((a0 = c0 ∧ mant v = mant u → ky a0 v = ky c0 u) ∧ (a0 < c0 ∨ (a0 = c0 ∧ mant v < mant u) → (rk a0 v = 1 → ky a0 v < ky c0 u) ∧ (rk a0 v = -1 → ky a0 v > ky c0 u)) ∧ (c0 < a0 ∨ (a0 = c0 ∧ mant u < mant v) → (rk a0 v = 1 → ky a0 v > ky c0 u) ∧ (rk a0 v = -1 → ky a0 v < ky c0 u)))) ∧ (rk a0 v = 1 ∨ rk a0 v = -1 ∨ rk a0 v = 0 ∧ a0 = 0) := by
  have A := rk_cases a0 v ha hv
  have C := rk_cases c0 u hc hu
  generalize rk a0 v = ra at *
  generalize rk c0 u = rc at *
  generalize ky a0 v = ka at *
  generalize ky c0 u = kc at *
  generalize mant v = ma at *
  generalize mant u = mc at *
  refine ⟨fun h => ⟨fun h' => ?_, fun h' => ?_⟩, fun h z => ⟨?_, fun h' => ?_, fun h' => ⟨fun g => ?_, fun g => ?_⟩, fun h' => ⟨fun g => ?_, fun g => ?_⟩⟩, ?_⟩ <;> omega
theorem fcmp_ev (a0 a1 a2 a3 a4 c0 c1 c2 c3 c4 : Int) (ba : B5 a0 a1 a2 a3 a4) (bc : B5 c0 c1 c2 c3 c4) : bakeref2_FiveCmp.f a0 a1 a2 a3 a4 c0 c1 c2 c3 c4 = some (if ky a0 (vv a1 a2 a3 a4) < ky c0 (vv c1 c2 c3 c4) then -1 else if ky a0 (vv a1 a2 a3 a4) > ky c0 (vv c1 c2 c3 c4) then 1 else 0) := by
  unfold bakeref2_FiveCmp.f
  rw [key_ev a0 a1 a2 a3 a4 ba, key_ev c0 c1 c2 c3 c4 bc]
  show (if ky a0 (vv a1 a2 a3 a4) < ky c0 (vv c1 c2 c3 c4) then some (-1) else (if ky a0 (vv a1 a2 a3 a4) > ky c0 (vv c1 c2 c3 c4) then some 1 else some 0)) = _
  split
  · rfl
  · split <;> rfl
/-- How two numbers compare. -/
theorem cmp_ev (a0 a1 a2 a3 a4 c0 c1 c2 c3 c4 : Int) (ba : B5 a0 a1 a2 a3 a4) (bc : B5 c0 c1 c2 c3 c4) (e1 : chk a0 a1 a2 a3 a4 = 0) (e2 : chk c0 c1 c2 c3 c4 = 0) :
    Ev (fun k => five_Cmp.f k a0 a1 a2 a3 a4 c0 c1 c2 c3 c4) ((if ky a0 (vv a1 a2 a3 a4) < ky c0 (vv c1 c2 c3 c4) then -1 else if ky a0 (vv a1 a2 a3 a4) > ky c0 (vv c1 c2 c3 c4) then 1 else 0), 0) := by
  have hB := both_ev a0 a1 a2 a3 a4 c0 c1 c2 c3 c4
  rw [if_pos e1, e2] at hB
  have rA := rank_ev a0 a1 a2 a3 a4 ba
  have rC := rank_ev c0 c1 c2 c3 c4 bc
  have pA := parts_ev a0 a1 a2 a3 a4 ba.b0 ba.b1 ba.b2 ba.b3 ba.b4
  have pC := parts_ev c0 c1 c2 c3 c4 bc.b0 bc.b1 bc.b2 bc.b3 bc.b4
  have hn := cmp_num a0 c0 (vv a1 a2 a3 a4) (vv c1 c2 c3 c4) ba.b0 bc.b0 (vv_cast ba.b1 ba.b2 ba.b3 ba.b4).2 (vv_cast bc.b1 bc.b2 bc.b3 bc.b4).2
  have ba0 := ba.b0
  have bc0 := bc.b0
  unfold By at ba0 bc0
  obtain ⟨n1, n2, n3⟩ := hn
  have j1n : ∀ k, five_Cmp.j1 (k + 1) false a0 a1 a2 a3 a4 = some (rk a0 (vv a1 a2 a3 a4), 0) := fun k => by simp only [five_Cmp.j1]; rw [rA]; rfl
  have j1p : ∀ k, five_Cmp.j1 (k + 1) true a0 a1 a2 a3 a4 = some (-(rk a0 (vv a1 a2 a3 a4)), 0) := fun k => by
    simp only [five_Cmp.j1]
    rw [rA]
    show some (wrap64 (-(rk a0 (vv a1 a2 a3 a4))), 0) = _
    rw [w64 _ (by omega) (by omega)]
  generalize hva : vv a1 a2 a3 a4 = v at *
  generalize hvc : vv c1 c2 c3 c4 = u at *
  unfold five_Cmp.f
  refine Ev.bind (Ev.all fun k => hB) (Ev.pos rfl (Ev.bind (Ev.all fun k => rA) (Ev.bind (Ev.all fun k => rC) ?_)))
  by_cases hr : rk a0 v = rk c0 u
  · refine Ev.pos hr (Ev.bind (Ev.all fun k => pA) (Ev.bind (Ev.all fun k => pC) ?_))
    by_cases z : a0 = 0
    · have z2 : c0 = 0 := by
        have : rk a0 v = 0 := by unfold rk; rw [if_pos z]
        rw [hr] at this
        unfold rk at this
        by_cases w : c0 = 0
        · exact w
        · rw [if_neg w] at this; split at this <;> omega
      rw [if_pos z, if_pos z2]
      have hk : ky a0 v = ky c0 u := by unfold ky; rw [if_pos z, if_pos z2]
      rw [if_neg (by omega), if_neg (by omega)]
      refine Ev.pos rfl (Ev.done fun k => ?_)
      simp only [five_Cmp.j0]
      rfl
    · obtain ⟨z2, n4, n5, n6⟩ := n2 hr z
      rw [if_neg z, if_neg z2]
      have j0f : ∀ x8 x9 x11 x12 k, five_Cmp.j0 (k + 1) x8 x9 x11 x12 false a0 a1 a2 a3 a4 = (if x9 < x12 then five_Cmp.j1 k true a0 a1 a2 a3 a4 else (if x9 = x12 then five_Cmp.j1 k (decide (x8 < x11)) a0 a1 a2 a3 a4 else five_Cmp.j1 k false a0 a1 a2 a3 a4)) := fun x8 x9 x11 x12 k => by simp only [five_Cmp.j0]; rfl
      have j0t : ∀ x8 x9 x11 x12 k, five_Cmp.j0 (k + 1) x8 x9 x11 x12 true a0 a1 a2 a3 a4 = some (0, 0) := fun x8 x9 x11 x12 k => by simp only [five_Cmp.j0]; rfl
      have less : (a0 < c0 ∨ (a0 = c0 ∧ mant v < mant u)) → (if ky a0 v < ky c0 u then (-1 : Int) else if ky a0 v > ky c0 u then 1 else 0) = -(rk a0 v) := by
        intro h
        obtain ⟨k1, k2⟩ := n5 h
        rcases n3 with c | c | c
        · rw [if_pos (k1 c), c]
        · have := k2 c
          rw [if_neg (by omega), if_pos this, c]; rfl
        · exact absurd c.2 z
      have more : (c0 < a0 ∨ (a0 = c0 ∧ mant u < mant v)) → (if ky a0 v < ky c0 u then (-1 : Int) else if ky a0 v > ky c0 u then 1 else 0) = rk a0 v := by
        intro h
        obtain ⟨k1, k2⟩ := n6 h
        rcases n3 with c | c | c
        · have := k1 c
          rw [if_neg (by omega), if_pos this, c]
        · rw [if_pos (k2 c), c]
        · exact absurd c.2 z
      by_cases hx : a0 = c0
      · refine Ev.pos (by show a0 - 160 = c0 - 160; omega) ?_
        by_cases hm : mant v = mant u
        · have hk := n4 ⟨hx, hm⟩
          rw [if_neg (by omega), if_neg (by omega)]
          dsimp only
          rw [hm, show (((mant u : Nat) : Int) == ((mant u : Nat) : Int)) = true by simp]
          exact Ev.done fun k => j0t _ _ _ _ k
        · dsimp only
          rw [show (((mant v : Nat) : Int) == ((mant u : Nat) : Int)) = false by rw [beq_eq_false_iff_ne]; omega]
          refine Ev.step (fun k => j0f _ _ _ _ k) (Ev.neg (by omega) (Ev.pos (by omega) ?_))
          by_cases hl : mant v < mant u
          · rw [less (.inr ⟨hx, hl⟩), decide_eq_true (by omega : ((mant v : Nat) : Int) < ((mant u : Nat) : Int))]
            exact Ev.done j1p
          · rw [more (.inr ⟨hx, by omega⟩), decide_eq_false (by omega : ¬ ((mant v : Nat) : Int) < ((mant u : Nat) : Int))]
            exact Ev.done j1n
      · refine Ev.neg (by show ¬ a0 - 160 = c0 - 160; omega) ?_
        dsimp only
        refine Ev.step (fun k => j0f _ _ _ _ k) ?_
        by_cases hl : a0 < c0
        · rw [less (.inl hl)]
          exact Ev.pos (by omega) (Ev.done j1p)
        · rw [more (.inl (by omega))]
          exact Ev.neg (by omega) (Ev.neg (by omega) (Ev.done j1n))
  · refine Ev.neg hr (Ev.bind (Ev.all fun k => rA) (Ev.bind (Ev.all fun k => rC) ?_))
    obtain ⟨k1, k2⟩ := n1 hr
    by_cases hl : rk a0 v < rk c0 u
    · rw [if_pos (k1 hl)]
      exact Ev.pos hl (Ev.all fun k => rfl)
    · have := k2 hl
      have e : (if ky a0 v < ky c0 u then (-1 : Int) else if ky a0 v > ky c0 u then 1 else 0) = 1 := by rw [if_neg (by omega), if_pos this]
      rw [e]
      exact Ev.neg hl (Ev.all fun k => rfl)
end Go.Proofs.Ytmedmifkeliepaa.BkFiveMuls
