/-
  Whole numbers as numbers of five bytes, and back, as the program and the reference have them. Conditions stand in each lemma.
-/
import Derived.Test.YtgiodeiibmbhhaaZFivePack
import Derived.Test.YtgiodeiibmbhhaaPFiveWholesx0
import Derived.Test.YtgiodeiibmbhhaaPFiveWholesx1
import Derived.Test.YtgiodeiibmbhhaaPFiveWholesx2
import Derived.Test.YtgiodeiibmbhhaaPFiveWholesx3
import Derived.Test.YtgiodeiibmbhhaaPFiveWholesx4
import Derived.Test.YtgiodeiibmbhhaaPFiveWholesx5
import Derived.Test.YtgiodeiibmbhhaaPFiveWholesx6
import Derived.Test.YtgiodeiibmbhhaaPFiveWholesx7
set_option linter.unusedVariables false
set_option linter.unusedSimpArgs false
namespace Go.Proofs.Ytgiodeiibmbhhaa.BkFiveWholes
open Go Go.RowKit Go.Proofs.YtgiodeiibmbhhaaW.PrintWords Go.Proofs.YtgiodeiibmbhhaaW.PrintLast Go.Proofs.YtgiodeiibmbhhaaW.PrintMore Go.Proofs.Ytgiodeiibmbhhaa.PFiveWholes Go.Proofs.Ytgiodeiibmbhhaa.Bk
theorem dig_one : dig 1 = [1] := by rw [dig_pos (by decide), dig_zero]; rfl
theorem near_pack (neg : Bool) (m : Nat) (e : Int) (h0 : 0 < m) (h1 : m < 18446744073709551616) (he : -30000 ≤ e ∧ e ≤ 30000) : ∃ r, Ev (fun k => five_pack.f k neg (m : Int) e false) r ∧ Ev (fun k => bakeref2_nearest.f k neg (dig m) [1] e) r := by
  obtain ⟨L, l1, l2, p0, p1, hp⟩ := pack_ev neg false m e h0 h1 (by omega)
  refine ⟨_, hp, ?_⟩
  rw [← dig_one]
  by_cases a : L ≤ 32
  · rw [if_pos a]
    have hm0 : 2147483648 ≤ m * 2 ^ (32 - L) := by
      have := Nat.mul_le_mul_right (2 ^ (32 - L)) p0
      rw [← Nat.pow_add, show L - 1 + (32 - L) = 31 by omega] at this
      exact this
    have hm1 : m * 2 ^ (32 - L) < 4294967296 := by
      have := Nat.mul_lt_mul_of_pos_right p1 (Nat.pow_pos (a := 2) (n := 32 - L) (by decide))
      rw [← Nat.pow_add, show L + (32 - L) = 32 by omega] at this
      exact this
    have h := nearest_ev neg m 1 (32 - L) 0 (m * 2 ^ (32 - L)) 0 e h0 (by decide) (.inr rfl) (by simp) (by simp) hm0 hm1 (sm_pow (by decide)) (by omega) (by omega)
    have hu : upB (2 * 0) (1 * 2 ^ 0) (m * 2 ^ (32 - L)) = false := by simp [upB]
    rw [hu, show e - ((32 - L : Nat) : Int) + ((0 : Nat) : Int) = e + ((L : Int) - 32) by omega] at h
    exact h
  · rw [if_neg a]
    have hq0 : 2147483648 ≤ m / 2 ^ (L - 32) := by
      rw [Nat.le_div_iff_mul_le (Nat.pow_pos (by decide)), show (2147483648 : Nat) = 2 ^ 31 from rfl, ← Nat.pow_add, show 31 + (L - 32) = L - 1 by omega]
      exact p0
    have hq1 : m / 2 ^ (L - 32) < 4294967296 := by
      rw [Nat.div_lt_iff_lt_mul (Nat.pow_pos (by decide)), show (4294967296 : Nat) = 2 ^ 32 from rfl, ← Nat.pow_add, show 32 + (L - 32) = L by omega]
      exact p1
    have hP : 2 ^ (L - 32) = 2 * 2 ^ (L - 33) := by rw [show L - 32 = (L - 33) + 1 by omega, Nat.pow_succ, Nat.mul_comm]
    have hPle : 2 ^ (L - 32) ≤ 2 ^ 32 := Nat.pow_le_pow_right (by decide) (by omega)
    have h := nearest_ev neg m 1 0 (L - 32) (m / 2 ^ (L - 32)) (m % 2 ^ (L - 32)) e h0 (by decide) (.inl rfl) (by rw [Nat.pow_zero, Nat.mul_one, Nat.one_mul, Nat.mul_comm]; exact (Nat.div_add_mod _ _).symm) (by rw [Nat.one_mul]; exact Nat.mod_lt _ (Nat.pow_pos (by decide))) hq0 hq1 (sm_pow (by rw [Nat.one_mul]; exact Nat.lt_of_le_of_lt (Nat.mul_le_mul_right _ hPle) (by decide))) (by omega) (by omega)
    rw [Nat.one_mul, show e - ((0 : Nat) : Int) + ((L - 32 : Nat) : Int) = e + ((L : Int) - 32) by omega] at h
    have hu : upB (2 * (m % 2 ^ (L - 32))) (2 ^ (L - 32)) (m / 2 ^ (L - 32)) = upP (m % 2 ^ (L - 32)) (2 ^ (L - 33)) (m / 2 ^ (L - 32)) false := by
      generalize m / 2 ^ (L - 32) = q
      generalize m % 2 ^ (L - 32) = r
      rw [hP]
      generalize 2 ^ (L - 33) = z
      unfold upB upP
      by_cases c1 : z < r
      · rw [if_pos c1, if_pos (by omega)]
      · rw [if_neg c1, if_neg (by omega)]
        by_cases c2 : r = z
        · rw [if_pos c2, if_neg (by omega), if_neg (by decide)]
        · rw [if_neg c2, if_pos (by omega)]
    rw [hu] at h
    exact h
/-- The number nearest to a whole one. -/
theorem of_ev (n : Int) (h0 : -9223372036854775808 ≤ n) (h1 : n ≤ 9223372036854775807) : ∃ r, Ev (fun k => five_Of.f k n) r ∧ Ev (fun k => bakeref2_FiveOf.f k n) r := by
  by_cases hn : n < 0
  · obtain ⟨m, hm⟩ : ∃ m : Nat, (m : Int) = -n := ⟨(-n).toNat, by omega⟩
    have hw : IntKind.u64.wrap (-(IntKind.u64.wrap n)) = (m : Int) := by rw [IntKind.wrap_u64, IntKind.wrap_u64]; omega
    obtain ⟨r, r1, r2⟩ := near_pack true m 0 (by omega) (by omega) (by omega)
    refine ⟨r, ?_, ?_⟩
    · unfold five_Of.f
      refine Ev.pos hn ?_
      rw [hw]
      exact Ev.bind r1 (Ev.all fun k => rfl)
    · unfold bakeref2_FiveOf.f
      refine Ev.neg (by omega) (Ev.pos hn ?_)
      rw [hw, decide_eq_true hn]
      exact Ev.bind (natOf_ev m (by omega)) (Ev.bind r2 (Ev.all fun k => rfl))
  · by_cases hz : n = 0
    · subst hz
      refine ⟨(0, 0, 0, 0, 0, 0), ?_, ?_⟩
      · unfold five_Of.f
        refine Ev.neg hn ?_
        have hw : IntKind.u64.wrap 0 = 0 := wu64 0 (by omega) (by omega)
        rw [hw]
        refine Ev.bind (a := (0, 0, 0, 0, 0, 0)) ?_ (Ev.all fun k => rfl)
        unfold five_pack.f
        exact Ev.pos rfl (Ev.all fun k => rfl)
      · unfold bakeref2_FiveOf.f
        exact Ev.pos rfl (Ev.all fun k => rfl)
    · obtain ⟨m, hm⟩ : ∃ m : Nat, (m : Int) = n := ⟨n.toNat, by omega⟩
      have hw : IntKind.u64.wrap n = (m : Int) := by rw [wu64 n (by omega) (by omega)]; omega
      obtain ⟨r, r1, r2⟩ := near_pack false m 0 (by omega) (by omega) (by omega)
      refine ⟨r, ?_, ?_⟩
      · unfold five_Of.f
        refine Ev.neg hn ?_
        rw [hw]
        exact Ev.bind r1 (Ev.all fun k => rfl)
      · unfold bakeref2_FiveOf.f
        refine Ev.neg hz (Ev.neg hn ?_)
        rw [hw, decide_eq_false hn]
        exact Ev.bind (natOf_ev m (by omega)) (Ev.bind r2 (Ev.all fun k => rfl))
theorem begun_ev : Ev (fun k => bakelaw2_fiveBegun.f k) true := by
  obtain ⟨L, l1, l2, p0, p1, hp⟩ := pack_ev false false 1 0 (by decide) (by decide) (by omega)
  have hL : L = 1 := by
    rcases Nat.lt_or_ge 1 L with h | h
    · have := Nat.pow_le_pow_right (n := 2) (by decide) (show 1 ≤ L - 1 by omega)
      omega
    · omega
  subst hL
  have hv : (if 1 ≤ 32 then rnd false (0 + (((1 : Nat) : Int) - 32)) (1 * 2 ^ (32 - 1)) false else rnd false (0 + (((1 : Nat) : Int) - 32)) (1 / 2 ^ (1 - 32)) (upP (1 % 2 ^ (1 - 32)) (2 ^ (1 - 33)) (1 / 2 ^ (1 - 32)) false)) = (129, 0, 0, 0, 0, 0) := by decide
  rw [hv] at hp
  unfold bakelaw2_fiveBegun.f
  refine Ev.bind (a := (129, 0, 0, 0, 0, 0)) ?_ (Ev.all fun k => rfl)
  unfold five_Of.f
  refine Ev.neg (by decide) ?_
  have hw : IntKind.u64.wrap 1 = ((1 : Nat) : Int) := wu64 1 (by omega) (by omega)
  rw [hw]
  exact Ev.bind hp (Ev.all fun k => rfl)
def By (x : Int) : Prop := 0 ≤ x ∧ x < 256
theorem u8zero {x : Int} (h : By x) : UInt8.ofNat x.toNat = 0 ↔ x = 0 := by
  unfold By at h
  constructor
  · intro e
    have := congrArg UInt8.toNat e
    rw [UInt8.toNat_ofNat'] at this
    simp at this
    omega
  · intro e; subst e; rfl
def chk (a0 a1 a2 a3 a4 : Int) : Int := if a0 = 0 ∧ ¬ (a1 = 0 ∧ a2 = 0 ∧ a3 = 0 ∧ a4 = 0) then 3 else 0
theorem check_ev (a0 a1 a2 a3 a4 : Int) : five_Check.f a0 a1 a2 a3 a4 = some (chk a0 a1 a2 a3 a4) := by
  unfold five_Check.f chk
  by_cases h0 : a0 = 0
  · have hb : (!(a0 == 0) || (!(a1 == 0) || (!(a2 == 0) || (!(a3 == 0) || (!(a4 == 0)))))) = true ↔ ¬ (a1 = 0 ∧ a2 = 0 ∧ a3 = 0 ∧ a4 = 0) := by
      by_cases h1 : a1 = 0 <;> by_cases h2 : a2 = 0 <;> by_cases h3 : a3 = 0 <;> by_cases h4 : a4 = 0 <;> simp [h0, h1, h2, h3, h4]
    rw [if_pos h0]
    by_cases h : a1 = 0 ∧ a2 = 0 ∧ a3 = 0 ∧ a4 = 0
    · rw [if_neg (fun z => (hb.1 z) h), if_neg (fun z => z.2 h)]
    · rw [if_pos (hb.2 h), if_pos ⟨h0, h⟩]
  · rw [if_neg h0, if_neg (fun h => h0 h.1)]
theorem err_ev (a0 a1 a2 a3 a4 : Int) (b1 : By a1) (b2 : By a2) (b3 : By a3) (b4 : By a4) : bakeref2_FiveErr.f a0 a1 a2 a3 a4 = some (chk a0 a1 a2 a3 a4) := by
  unfold bakeref2_FiveErr.f chk
  by_cases h0 : a0 = 0
  · subst h0
    rw [if_pos rfl, ByteArray.toList_eq, strOfNums_data]
    have e : (([0, a1, a2, a3, a4] : List Int).map fun n => UInt8.ofNat n.toNat) = ([0, 0, 0, 0, 0] : List UInt8) ↔ (a1 = 0 ∧ a2 = 0 ∧ a3 = 0 ∧ a4 = 0) := by
      simp only [List.map_cons, List.map_nil, List.cons.injEq, and_true, u8zero b1, u8zero b2, u8zero b3, u8zero b4]
      constructor
      · rintro ⟨_, h⟩; exact h
      · intro h; exact ⟨rfl, h⟩
    by_cases h : a1 = 0 ∧ a2 = 0 ∧ a3 = 0 ∧ a4 = 0
    · rw [if_pos (e.2 h), if_neg (fun z => z.2 h)]
    · rw [if_neg (fun z => h (e.1 z)), if_pos ⟨rfl, h⟩]
  · rw [if_neg h0, if_neg (fun h => h0 h.1)]
def vv (a1 a2 a3 a4 : Int) : Nat := (a1 * 16777216 + a2 * 65536 + a3 * 256 + a4).toNat
theorem vv_cast {a1 a2 a3 a4 : Int} (b1 : By a1) (b2 : By a2) (b3 : By a3) (b4 : By a4) : ((vv a1 a2 a3 a4 : Nat) : Int) = a1 * 16777216 + a2 * 65536 + a3 * 256 + a4 ∧ vv a1 a2 a3 a4 < 4294967296 := by
  unfold By at *
  unfold vv
  omega
def mant (v : Nat) : Nat := if 2147483648 ≤ v then v else v + 2147483648
theorem mant_b {v : Nat} (h : v < 4294967296) : 2147483648 ≤ mant v ∧ mant v < 4294967296 := by unfold mant; split <;> omega
theorem parts_num (a1 a2 a3 a4 : Int) (b1 : 0 ≤ a1 ∧ a1 < 256) (b2 : 0 ≤ a2 ∧ a2 < 256) (b3 : 0 ≤ a3 ∧ a3 < 256) (b4 : 0 ≤ a4 ∧ a4 < 256) : Go.bits .or .u64 (Go.bits .or .u64 (Go.bits .or .u64 (IntKind.u64.wrap ((IntKind.u64.wrap a1) * 16777216)) (IntKind.u64.wrap ((IntKind.u64.wrap a2) * 65536))) (IntKind.u64.wrap ((IntKind.u64.wrap a3) * 256))) (IntKind.u64.wrap a4) = a1 * 16777216 + a2 * 65536 + a3 * 256 + a4 := by
  have w1 : IntKind.u64.wrap ((IntKind.u64.wrap a1) * 16777216) = a1 * 16777216 := by rw [wu64 a1 (by omega) (by omega), wu64 _ (by omega) (by omega)]
  have w2 : IntKind.u64.wrap ((IntKind.u64.wrap a2) * 65536) = a2 * 65536 := by rw [wu64 a2 (by omega) (by omega), wu64 _ (by omega) (by omega)]
  have w3 : IntKind.u64.wrap ((IntKind.u64.wrap a3) * 256) = a3 * 256 := by rw [wu64 a3 (by omega) (by omega), wu64 _ (by omega) (by omega)]
  have w4 : IntKind.u64.wrap a4 = a4 := wu64 a4 (by omega) (by omega)
  rw [w1, w2, w3, w4]
  clear w1 w2 w3 w4
  have o1 : Go.bits .or .u64 (a1 * 16777216) (a2 * 65536) = a1 * 16777216 + a2 * 65536 := bits_join .u64 64 (by decide) wraps_u64 24 _ _ (by omega) (by omega) (by omega) (by omega) (by omega) (by omega)
  have o2 : Go.bits .or .u64 (a1 * 16777216 + a2 * 65536) (a3 * 256) = a1 * 16777216 + a2 * 65536 + a3 * 256 := bits_join .u64 64 (by decide) wraps_u64 16 _ _ (by omega) (by omega) (by omega) (by omega) (by omega) (by omega)
  have o3 : Go.bits .or .u64 (a1 * 16777216 + a2 * 65536 + a3 * 256) a4 = a1 * 16777216 + a2 * 65536 + a3 * 256 + a4 := bits_join .u64 64 (by decide) wraps_u64 8 _ _ (by omega) (by omega) (by omega) (by omega) (by omega) (by omega)
  rw [o1, o2, o3]
theorem parts_ev (a0 a1 a2 a3 a4 : Int) (b0 : By a0) (b1 : By a1) (b2 : By a2) (b3 : By a3) (b4 : By a4) : five_parts.f a0 a1 a2 a3 a4 = some (if a0 = 0 then (false, 0, 0) else (decide (2147483648 ≤ vv a1 a2 a3 a4), ((mant (vv a1 a2 a3 a4) : Nat) : Int), a0 - 160)) := by
  obtain ⟨hv, hv2⟩ := vv_cast b1 b2 b3 b4
  unfold five_parts.f
  by_cases h0 : a0 = 0
  · rw [if_pos h0, if_pos h0]
  · rw [if_neg h0, if_neg h0]
    have e := parts_num a1 a2 a3 a4 b1 b2 b3 b4
    rw [← hv] at e
    unfold By at b0
    have e6 : wrap64 (wrap64 a0 - 160) = a0 - 160 := by rw [w64 a0 (by omega) (by omega), w64 _ (by omega) (by omega)]
    rw [e, or31 _ hv2, e6]
    clear e hv
    generalize vv a1 a2 a3 a4 = v at hv2 ⊢
    unfold mant
    have hb : ((v : Int) / 2147483648 == 1) = decide (2147483648 ≤ v) := by rw [Bool.eq_iff_iff, beq_iff_eq, decide_eq_true_iff]; omega
    rw [hb]
    by_cases c : 2147483648 ≤ v
    · simp only [c, if_true]
    · simp only [c, if_false]; rfl
theorem split_num (a0 a1 a2 a3 a4 : Int) (b0 : 0 ≤ a0 ∧ a0 < 256) (b1 : 0 ≤ a1 ∧ a1 < 256) (b2 : 0 ≤ a2 ∧ a2 < 256) (b3 : 0 ≤ a3 ∧ a3 < 256) (b4 : 0 ≤ a4 ∧ a4 < 256) : wrap64 (wrap64 a1) = a1 ∧ wrap64 ((wrap64 (256 * a1)) + (wrap64 a2)) = a1 * 256 + a2 ∧ wrap64 ((wrap64 (256 * (a1 * 256 + a2))) + (wrap64 a3)) = a1 * 65536 + a2 * 256 + a3 ∧
    wrap64 ((wrap64 (256 * (a1 * 65536 + a2 * 256 + a3))) + (wrap64 a4)) = a1 * 16777216 + a2 * 65536 + a3 * 256 + a4 ∧ wrap64 ((wrap64 a0) - 160) = a0 - 160 := by
  rw [w64 a0 (by omega) (by omega), w64 a1 (by omega) (by omega), w64 a2 (by omega) (by omega), w64 a3 (by omega) (by omega), w64 a4 (by omega) (by omega), w64 a1 (by omega) (by omega), w64 (256 * a1) (by omega) (by omega), w64 (256 * (a1 * 256 + a2)) (by omega) (by omega), w64 (256 * (a1 * 65536 + a2 * 256 + a3)) (by omega) (by omega), w64 (a0 - 160) (by omega) (by omega), w64 (256 * a1 + a2) (by omega) (by omega), w64 (256 * (a1 * 256 + a2) + a3) (by omega) (by omega), w64 (256 * (a1 * 65536 + a2 * 256 + a3) + a4) (by omega) (by omega)]
  omega
theorem split_ev (a0 a1 a2 a3 a4 : Int) (b0 : By a0) (b1 : By a1) (b2 : By a2) (b3 : By a3) (b4 : By a4) : Ev (fun k => bakeref2_split.f k a0 a1 a2 a3 a4) (decide (2147483648 ≤ vv a1 a2 a3 a4), dig (mant (vv a1 a2 a3 a4)), a0 - 160) := by
  obtain ⟨hv, hv2⟩ := vv_cast b1 b2 b3 b4
  unfold By at *
  unfold bakeref2_split.f
  obtain ⟨e1, e2, e3, e4, e5⟩ := split_num a0 a1 a2 a3 a4 b0 b1 b2 b3 b4
  rw [← hv] at e4
  rw [e1, e2, e3, e4, e5]
  generalize vv a1 a2 a3 a4 = v at hv2 ⊢
  have hd : decide ((v : Int) ≥ 2147483648) = decide (2147483648 ≤ v) := decide_eq_decide.2 (by omega)
  rw [hd]
  unfold mant
  by_cases c : 2147483648 ≤ v
  · rw [if_pos c]
    refine Ev.pos (by omega) ?_
    rw [wu64 (v : Int) (by omega) (by omega)]
    exact Ev.bind (natOf_ev v (by omega)) (Ev.all fun k => rfl)
  · rw [if_neg c]
    refine Ev.neg (by omega) ?_
    have hw : IntKind.u64.wrap (wrap64 ((v : Int) + 2147483648)) = ((v + 2147483648 : Nat) : Int) := by rw [w64 _ (by omega) (by omega), wu64 _ (by omega) (by omega)]; omega
    rw [hw]
    clear hw hv hd
    obtain ⟨z, hz⟩ : ∃ z : Nat, v + 2147483648 = z := ⟨_, rfl⟩
    rw [hz]
    exact Ev.bind (natOf_ev z (by omega)) (Ev.all fun k => rfl)
theorem floor_neg (M P : Nat) (hP : 0 < P) : (-(M : Int)) / (P : Int) = if M % P = 0 then -((M / P : Nat) : Int) else -(((M / P : Nat) : Int) + 1) := by
  have h := Nat.div_add_mod M P
  have hr := Nat.mod_lt M hP
  generalize M / P = q at h ⊢
  generalize M % P = r at h hr ⊢
  have hM : (M : Int) = (P : Int) * (q : Int) + (r : Int) := by rw [← h]; simp
  by_cases c : r = 0
  · rw [if_pos c]
    refine ((Int.ediv_emod_unique (a := -(M : Int)) (b := (P : Int)) (r := 0) (q := -(q : Int)) (by omega)).2 ⟨?_, by omega, by omega⟩).1
    rw [hM, Int.mul_neg]; omega
  · rw [if_neg c]
    refine ((Int.ediv_emod_unique (a := -(M : Int)) (b := (P : Int)) (r := (P : Int) - (r : Int)) (q := -((q : Int) + 1)) (by omega)).2 ⟨?_, by omega, by omega⟩).1
    rw [hM, Int.mul_neg, Int.mul_add, Int.mul_one]; omega
theorem int_l2 : ∀ (c : Nat) (x : Int), c ≤ 1000000 → Ev (fun k => bakeref2_FiveInt.l2 k (-(c : Int)) x) (x / ((2 ^ c : Nat) : Int), 0)
  | 0, x, h => by
    refine Ev.done fun k => ?_
    simp only [bakeref2_FiveInt.l2]
    rw [if_neg (by omega)]
    simp
  | c + 1, x, h => by
    have ih := int_l2 c (x / 2) (by omega)
    rw [Int.ediv_ediv_of_nonneg (by omega)] at ih
    have e : (2 : Int) * ((2 ^ c : Nat) : Int) = ((2 ^ (c + 1) : Nat) : Int) := by rw [Nat.pow_succ, Nat.mul_comm]; simp
    rw [e] at ih
    refine Ev.step (fun k => ?_) ih
    simp only [bakeref2_FiveInt.l2]
    rw [if_pos (by omega), w64 _ (by omega) (by omega)]
    congr 1; omega
theorem int_l1 : ∀ (c : Nat) (x : Int), c ≤ 1000000 → -9223372036854775808 ≤ x * ((2 ^ c : Nat) : Int) → x * ((2 ^ c : Nat) : Int) ≤ 9223372036854775807 → Ev (fun k => bakeref2_FiveInt.l1 k (c : Int) x) (x * ((2 ^ c : Nat) : Int), 0)
  | 0, x, h, h0, h1 => by
    have h2 := int_l2 0 x (by omega)
    simp only [Nat.pow_zero, Int.natCast_one, Int.ediv_one, Int.mul_one] at h2 ⊢
    refine Ev.step (fun k => ?_) h2
    simp only [bakeref2_FiveInt.l1]
    rw [if_neg (by omega)]
    rfl
  | c + 1, x, h, h0, h1 => by
    have e : x * ((2 ^ (c + 1) : Nat) : Int) = x * 2 * ((2 ^ c : Nat) : Int) := by rw [Nat.pow_succ, Nat.mul_comm, Int.mul_assoc]; simp
    rw [e] at h0 h1 ⊢
    have hp : (1 : Int) ≤ ((2 ^ c : Nat) : Int) := by have : 0 < 2 ^ c := Nat.pow_pos (by decide); omega
    have hx : -9223372036854775808 ≤ x * 2 ∧ x * 2 ≤ 9223372036854775807 := by
      generalize ((2 ^ c : Nat) : Int) = z at h0 h1 hp
      generalize x * 2 = y at h0 h1 ⊢
      rcases Int.le_total 0 y with hy | hy
      · have := Int.mul_le_mul_of_nonneg_left hp hy
        omega
      · have := Int.mul_le_mul_of_nonpos_left hy hp
        omega
    have ih := int_l1 c (x * 2) (by omega) h0 h1
    refine Ev.step (fun k => ?_) ih
    simp only [bakeref2_FiveInt.l1]
    rw [if_pos (by omega), w64 (x * 2) hx.1 hx.2, w64 _ (by omega) (by omega)]
    congr 1; omega
theorem int_loop (neg : Bool) (M : Nat) (e : Int) (r : Int × Int) (hM : M < 4294967296) (hr : Ev (fun k => if neg = true then bakeref2_FiveInt.j2 k e (wrap64 (-(M : Int))) else bakeref2_FiveInt.j2 k e (M : Int)) r) : ∀ (n : Nat) (p s : List Int), p.length = n → dig M = p ++ s → Ev (fun k => bakeref2_FiveInt.l0 k neg (dig M) e (val s) ((n : Int) - 1)) r
  | 0, p, s, hp, h => by
    have e1 : p = [] := List.eq_nil_of_length_eq_zero hp
    subst e1
    rw [List.nil_append] at h
    have hv : val s = (M : Int) := by rw [← h, val_dig]
    rw [hv]
    refine Ev.step (fun k => ?_) hr
    simp only [bakeref2_FiveInt.l0]
    rw [if_neg (by omega)]
  | n + 1, p, s, hp, h => by
    rcases nil_or_snoc p with e1 | ⟨p', x, e1⟩
    · rw [e1] at hp; simp at hp
    subst e1
    have hp' : p'.length = n := by simpa using hp
    rw [List.append_assoc] at h
    have hl := dig_len_of M (sm_pow (Nat.lt_trans hM (by decide)))
    have m1 := at_mid (l := dig M) (pre := p') (x := x) (suf := s) h (by omega)
    rw [hp'] at m1
    have ih := int_loop neg M e r hM hr n p' (x :: s) hp' h
    have hi : (((n + 1 : Nat) : Int) - 1) = (n : Int) := by omega
    have hv := val_dig M
    have hd := dig_dig M
    rw [h] at hv hd
    rw [val_append] at hv
    have b1 := val_bound p' (fun d hd' => hd d (by simp [hd']))
    have b2 := val_bound s (fun d hd' => hd d (by simp [hd']))
    have b3 := hd x (by simp)
    have hpp : (1 : Int) ≤ 10000 ^ p'.length := by have : (0 : Int) < 10000 ^ p'.length := Int.pow_pos (by decide); omega
    have hb : x + 10000 * val s ≤ (M : Int) := by
      have hv2 : val p' + 10000 ^ p'.length * (x + 10000 * val s) = (M : Int) := hv
      have h0 : 0 ≤ x + 10000 * val s := by have := b2.1; omega
      have := Int.mul_le_mul_of_nonneg_right hpp h0
      have b10 := b1.1
      generalize 10000 ^ p'.length * (x + 10000 * val s) = z at *
      omega
    have b20 := b2.1
    have hw : wrap64 ((wrap64 (10000 * val s)) + x) = val (x :: s) := by
      show _ = x + 10000 * val s
      generalize val s = z at *
      rw [w64 (10000 * z) (by omega) (by omega), w64 _ (by omega) (by omega)]; omega
    rw [hi]
    refine Ev.step (fun k => ?_) ih
    simp only [bakeref2_FiveInt.l0]
    rw [if_pos m1.1, if_pos m1.1, if_pos m1.2.1, m1.2.2.1, hw]
    congr 1
    exact w64 _ (by have := m1.1; omega) (by have := m1.2.1; omega)
theorem int_j2 (e : Int) (x r : Int) (h : (0 ≤ e ∧ -9223372036854775808 ≤ x * ((2 ^ e.toNat : Nat) : Int) ∧ x * ((2 ^ e.toNat : Nat) : Int) ≤ 9223372036854775807 ∧ r = x * ((2 ^ e.toNat : Nat) : Int)) ∨ (e < 0 ∧ r = x / ((2 ^ (-e).toNat : Nat) : Int))) (he : -1000 ≤ e ∧ e ≤ 1000) : Ev (fun k => bakeref2_FiveInt.j2 k e x) (r, 0) := by
  rcases h with ⟨h0, h1, h2, h3⟩ | ⟨h0, h3⟩
  · subst h3
    have := int_l1 e.toNat x (by omega) h1 h2
    rw [Int.toNat_of_nonneg h0] at this
    exact Ev.step (fun k => bakeref2_FiveInt.j2.eq_2 _ _ k) this
  · subst h3
    have := int_l2 (-e).toNat x (by omega)
    rw [Int.toNat_of_nonneg (by omega), Int.neg_neg] at this
    refine Ev.step (fun k => bakeref2_FiveInt.j2.eq_2 _ _ k) (Ev.step (fun k => ?_) this)
    simp only [bakeref2_FiveInt.l1]
    rw [if_neg (by omega)]
theorem j0_val (neg rest : Bool) (x : Int) (h0 : 0 ≤ x) (h1 : x ≤ 4611686018427387904) (k : Nat) : five_Int.j0 (k + 1) neg x rest = some (if neg = true then (if rest = true then -(x + 1) else -x) else x, 0) := by
  simp only [five_Int.j0]
  rw [w64 (x + 1) (by omega) (by omega), w64 (-(x + 1)) (by omega) (by omega), w64 (-x) (by omega) (by omega)]
  by_cases a : neg = true
  · rw [if_pos a, if_pos a]
    by_cases b : rest = true
    · rw [if_pos b, if_pos b]
    · rw [if_neg b, if_neg b]
  · rw [if_neg a, if_neg a]
theorem sh1 (M n : Nat) (h : M < 4294967296) (hn : n ≤ 30) : M * 2 ^ n < 4611686018427387904 ∧ wrap64 (shl .u64 (M : Int) (n : Int)) = ((M * 2 ^ n : Nat) : Int) := by
  have hp30 : 2 ^ n ≤ 2 ^ 30 := Nat.pow_le_pow_right (by decide) hn
  have hx : M * 2 ^ n < 4611686018427387904 := by
    have h1 := Nat.mul_le_mul_left M hp30
    have h2 : M * 2 ^ 30 < 4611686018427387904 := by omega
    exact Nat.lt_of_le_of_lt h1 h2
  refine ⟨hx, ?_⟩
  rw [shlU M n (by omega) (Nat.lt_trans hx (by decide))]
  generalize M * 2 ^ n = z at hx ⊢
  exact w64 _ (by omega) (by omega)
theorem sh2 (M n : Nat) (h : M < 4294967296) (hn : n ≤ 64) : wrap64 (shr .u64 (M : Int) (n : Int)) = ((M / 2 ^ n : Nat) : Int) := by
  rw [shrU M n hn]
  have := Nat.div_le_self M (2 ^ n)
  generalize M / 2 ^ n = z at this ⊢
  exact w64 _ (by omega) (by omega)
def sgn (neg : Bool) (M : Nat) : Int := if neg = true then -(M : Int) else (M : Int)
def res (neg : Bool) (M : Nat) (e : Int) : Int × Int := if e > 30 then (0, 21) else (if 0 ≤ e then sgn neg M * ((2 ^ e.toNat : Nat) : Int) else sgn neg M / ((2 ^ (-e).toNat : Nat) : Int), 0)
theorem prog_neg (neg : Bool) (M n : Nat) (h0 : 0 < M) (h1 : M < 4294967296) (k : Nat) : five_Int.j0 (k + 1) neg ((M / 2 ^ n : Nat) : Int) (((M % 2 ^ n : Nat) : Int) != 0) = some (sgn neg M / ((2 ^ n : Nat) : Int), 0) := by
  have hA : 0 ≤ ((M / 2 ^ n : Nat) : Int) := Int.natCast_nonneg _
  have hB : ((M / 2 ^ n : Nat) : Int) ≤ 4611686018427387904 := by
    have := Nat.div_le_self M (2 ^ n)
    generalize M / 2 ^ n = z at this ⊢
    omega
  have hfl := floor_neg M (2 ^ n) (Nat.pow_pos (by decide))
  rw [j0_val _ _ _ hA hB]
  unfold sgn
  by_cases cn : neg = true
  · rw [if_pos cn, if_pos cn, hfl]
    by_cases cr : M % 2 ^ n = 0
    · rw [if_pos cr, cr]; rfl
    · rw [if_neg cr, if_pos (by rw [bne_iff_ne]; omega)]
  · rw [if_neg cn, if_neg cn]; rfl
theorem prog_int (neg : Bool) (M : Nat) (e : Int) (h0 : 0 < M) (h1 : M < 4294967296) (he : -1000 ≤ e ∧ e ≤ 1000) : Ev (fun k => if e > 30 then some ((0, 21) : Int × Int) else (if e ≥ 0 then (if 0 ≤ e then (five_Int.j0 k neg (wrap64 (shl .u64 (M : Int) e)) false) else (none)) else (if e > (-32) then (if 0 ≤ (wrap64 (-e)) then (five_Int.j0 k neg (wrap64 (shr .u64 (M : Int) (wrap64 (-e)))) ((Go.bits .and .u64 (M : Int) (IntKind.u64.wrap ((shl .u64 1 (wrap64 (-e))) - 1))) != 0)) else (none)) else (five_Int.j0 k neg 0 ((M : Int) != 0))))) (res neg M e) := by
  unfold res
  by_cases c1 : e > 30
  · rw [if_pos c1]; exact Ev.pos c1 (Ev.all fun k => rfl)
  rw [if_neg c1]
  refine Ev.neg c1 ?_
  by_cases c2 : e ≥ 0
  · obtain ⟨n, hn⟩ : ∃ n : Nat, e = (n : Int) := ⟨e.toNat, by omega⟩
    subst hn
    have hn2 : n ≤ 30 := by omega
    rw [if_pos c2, Int.toNat_natCast, (sh1 M n h1 hn2).2]
    have hx := (sh1 M n h1 hn2).1
    refine Ev.pos c2 (Ev.pos c2 (Ev.done fun k => ?_))
    rw [j0_val _ _ _ (by omega) (by omega)]
    unfold sgn
    by_cases cn : neg = true
    · rw [if_pos cn, if_pos cn, Int.neg_mul, Int.natCast_mul]; rfl
    · rw [if_neg cn, if_neg cn, Int.natCast_mul]
  · obtain ⟨n, hn⟩ : ∃ n : Nat, -e = (n : Int) := ⟨(-e).toNat, by omega⟩
    rw [if_neg c2, hn, Int.toNat_natCast, show wrap64 (n : Int) = (n : Int) from w64 _ (by omega) (by omega)]
    refine Ev.neg c2 ?_
    by_cases c3 : e > -32
    · rw [sh2 M n h1 (by omega), maskU M n (by omega) (by omega)]
      exact Ev.pos c3 (Ev.pos (by omega) (Ev.done fun k => prog_neg neg M n h0 h1 k))
    · have hbig : M < 2 ^ n := Nat.lt_of_lt_of_le h1 (Nat.pow_le_pow_right (n := 2) (by decide) (by omega : 32 ≤ n))
      refine Ev.neg c3 (Ev.done fun k => ?_)
      have := prog_neg neg M n h0 h1 k
      rw [Nat.div_eq_of_lt hbig, Nat.mod_eq_of_lt hbig] at this
      exact this
theorem sgn_wrap (neg : Bool) (M : Nat) (h1 : M < 4294967296) (e : Int) (k : Nat) : (if neg = true then bakeref2_FiveInt.j2 k e (wrap64 (-(M : Int))) else bakeref2_FiveInt.j2 k e (M : Int)) = bakeref2_FiveInt.j2 k e (sgn neg M) := by
  unfold sgn
  rw [w64 (-(M : Int)) (by omega) (by omega)]
  by_cases cn : neg = true
  · rw [if_pos cn, if_pos cn]
  · rw [if_neg cn, if_neg cn]
theorem sgn_b (neg : Bool) (M n : Nat) (h1 : M < 4294967296) (hn : n ≤ 30) : -9223372036854775808 ≤ sgn neg M * ((2 ^ n : Nat) : Int) ∧ sgn neg M * ((2 ^ n : Nat) : Int) ≤ 9223372036854775807 := by
  have hx := (sh1 M n h1 hn).1
  unfold sgn
  split
  · rw [Int.neg_mul, ← Int.natCast_mul]
    generalize M * 2 ^ n = z at hx ⊢
    omega
  · rw [← Int.natCast_mul]
    generalize M * 2 ^ n = z at hx ⊢
    omega
theorem ref_int (neg : Bool) (M : Nat) (e : Int) (h0 : 0 < M) (h1 : M < 4294967296) (he : -1000 ≤ e ∧ e ≤ 1000) : Ev (fun k => if e ≥ 31 then some ((0, 21) : Int × Int) else (bakeref2_FiveInt.l0 k neg (dig M) e 0 (wrap64 (((dig M).length : Int) - 1)))) (res neg M e) := by
  unfold res
  by_cases c1 : e > 30
  · rw [if_pos c1]; exact Ev.pos (by omega) (Ev.all fun k => rfl)
  rw [if_neg c1]
  refine Ev.neg (by omega) ?_
  have hl := dig_len_of M (sm_pow (Nat.lt_trans h1 (by decide)))
  rw [w64 (((dig M).length : Int) - 1) (by omega) (by omega)]
  refine int_loop neg M e _ h1 ?_ (dig M).length (dig M) [] rfl (by simp)
  have hs : (fun k => if neg = true then bakeref2_FiveInt.j2 k e (wrap64 (-(M : Int))) else bakeref2_FiveInt.j2 k e (M : Int)) = fun k => bakeref2_FiveInt.j2 k e (sgn neg M) := funext fun k => sgn_wrap neg M h1 e k
  rw [hs]
  by_cases c2 : 0 ≤ e
  · rw [if_pos c2]
    have hb := sgn_b neg M e.toNat h1 (by omega)
    exact int_j2 e _ _ (.inl ⟨c2, hb.1, hb.2, rfl⟩) he
  · rw [if_neg c2]
    exact int_j2 e _ _ (.inr ⟨by omega, rfl⟩) he
/-- The greatest whole number that isn't greater, both ways. -/
theorem int_ev (a0 a1 a2 a3 a4 : Int) (b0 : By a0) (b1 : By a1) (b2 : By a2) (b3 : By a3) (b4 : By a4) : ∃ r, Ev (fun k => five_Int.f k a0 a1 a2 a3 a4) r ∧ Ev (fun k => bakeref2_FiveInt.f k a0 a1 a2 a3 a4) r := by
  have hc := check_ev a0 a1 a2 a3 a4
  have hE := err_ev a0 a1 a2 a3 a4 b1 b2 b3 b4
  by_cases hk : chk a0 a1 a2 a3 a4 = 0
  · rw [hk] at hc hE
    have hpa := parts_ev a0 a1 a2 a3 a4 b0 b1 b2 b3 b4
    by_cases h0 : a0 = 0
    · rw [if_pos h0] at hpa
      refine ⟨(0, 0), ?_, ?_⟩
      · unfold five_Int.f
        refine Ev.bind (Ev.all fun k => hc) (Ev.pos rfl (Ev.bind (Ev.all fun k => hpa) ?_))
        refine Ev.neg (by decide) (Ev.pos (by decide) (Ev.pos (by decide) ?_))
        refine Ev.done fun k => ?_
        have hz := (sh1 0 0 (by decide) (by decide)).2
        have hz' : wrap64 (shl .u64 0 0) = 0 := hz
        show five_Int.j0 (k + 1) false (wrap64 (shl .u64 0 0)) false = _
        rw [hz', j0_val _ _ _ (by decide) (by decide)]
        rfl
      · unfold bakeref2_FiveInt.f
        refine Ev.bind (Ev.all fun k => hE) (Ev.pos rfl ?_)
        refine Ev.done fun k => ?_
        simp only [bakeref2_FiveInt.j0]
        rw [if_pos (by simp [h0])]
    · rw [if_neg h0] at hpa
      have hsp := split_ev a0 a1 a2 a3 a4 b0 b1 b2 b3 b4
      have hmb := mant_b (vv_cast b1 b2 b3 b4).2
      generalize mant (vv a1 a2 a3 a4) = M at *
      generalize decide (2147483648 ≤ vv a1 a2 a3 a4) = neg at *
      unfold By at b0
      have heb : -1000 ≤ a0 - 160 ∧ a0 - 160 ≤ 1000 := by omega
      generalize a0 - 160 = e at *
      have h1 : 0 < M := by omega
      refine ⟨res neg M e, ?_, ?_⟩
      · unfold five_Int.f
        exact Ev.bind (Ev.all fun k => hc) (Ev.pos rfl (Ev.bind (Ev.all fun k => hpa) (prog_int neg M e h1 hmb.2 heb)))
      · unfold bakeref2_FiveInt.f
        refine Ev.bind (Ev.all fun k => hE) (Ev.pos rfl ?_)
        have hz : (a0 == 0) = false := beq_eq_false_iff_ne.mpr h0
        rw [hz]
        exact Ev.step (fun k => bakeref2_FiveInt.j0.eq_2 _ _ _ _ _ _ _ k) (Ev.neg (by decide) (Ev.bind hsp (ref_int neg M e h1 hmb.2 heb)))
  · have hk3 : ∀ k : Nat, five_Int.f k a0 a1 a2 a3 a4 = some (0, chk a0 a1 a2 a3 a4) := by
      intro k
      unfold five_Int.f
      rw [hc]
      show (if chk a0 a1 a2 a3 a4 = 0 then _ else _) = _
      rw [if_neg hk]
    refine ⟨(0, chk a0 a1 a2 a3 a4), Ev.all hk3, ?_⟩
    unfold bakeref2_FiveInt.f
    refine Ev.bind (Ev.all fun k => hE) (Ev.neg hk ?_)
    refine Ev.done fun k => ?_
    simp only [bakeref2_FiveInt.j0]
    rw [if_pos trivial]
end Go.Proofs.Ytgiodeiibmbhhaa.BkFiveWholes
