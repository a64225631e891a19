/-
  Sums and differences of numbers of five bytes, as the program and the reference have them. Conditions stand in each lemma.
-/
import Derived.Test.YtgiodeiibmbhhaaZFaPack
import Derived.Test.YtgiodeiibmbhhaaPFiveAddsx0
import Derived.Test.YtgiodeiibmbhhaaPFiveAddsx1
import Derived.Test.YtgiodeiibmbhhaaPFiveAddsx2
import Derived.Test.YtgiodeiibmbhhaaPFiveAddsx3
import Derived.Test.YtgiodeiibmbhhaaPFiveAddsx4
import Derived.Test.YtgiodeiibmbhhaaPFiveAddsx5
import Derived.Test.YtgiodeiibmbhhaaPFiveAddsx6
import Derived.Test.YtgiodeiibmbhhaaPFiveAddsx7
import Derived.Test.YtgiodeiibmbhhaaPFiveAddsx8
import Derived.Test.YtgiodeiibmbhhaaPFiveAddsx9
set_option linter.unusedVariables false
set_option linter.unusedSimpArgs false
namespace Go.Proofs.Ytgiodeiibmbhhaa.BkFiveAdds
open Go Go.RowKit Go.Proofs.YtgiodeiibmbhhaaW.PrintWords Go.Proofs.YtgiodeiibmbhhaaW.PrintLast Go.Proofs.YtgiodeiibmbhhaaW.PrintMore Go.Proofs.Ytgiodeiibmbhhaa.PFiveAdds Go.Proofs.Ytgiodeiibmbhhaa.Bk
theorem twice_loop (n : Nat) (hn : n ≤ 100000) : ∀ (m i a : Nat), i + m = n → Sm (a * 2 ^ m) → Ev (fun k => bakeref2_nat_twice.l0 k (dig a) (n : Int) (i : Int)) (dig (a * 2 ^ m)) := by
  intro m
  induction m with
  | zero =>
    intro i a hi hs
    refine Ev.done fun k => ?_
    simp only [bakeref2_nat_twice.l0]
    rw [if_neg (by omega)]
    simp
  | succ m ih =>
    intro i a hi hs
    have e : a * 2 ^ (m + 1) = 2 * a * 2 ^ m := by rw [Nat.pow_succ, Nat.mul_comm (2 ^ m), ← Nat.mul_assoc, Nat.mul_comm a]
    rw [e] at hs ⊢
    have h2 : Sm (2 * a) := sm_of (Nat.le_mul_of_pos_right _ (Nat.pow_pos (by decide))) hs
    have t1 := times_evI a 2 2 rfl (by omega) (by omega) (sm_of (by omega) h2) h2
    have h := ih (i + 1) (2 * a) (by omega) hs
    have hw : wrap64 ((i : Int) + 1) = ((i + 1 : Nat) : Int) := by rw [w64 _ (by omega) (by omega)]; rfl
    refine Ev.step (f := fun k => (bakeref2_nat_times.f k (dig a) 2).bind fun t246 => bakeref2_nat_twice.l0 k t246 (n : Int) ((i + 1 : Nat) : Int)) (fun k => ?_) (Ev.bind t1 h)
    simp only [bakeref2_nat_twice.l0]
    rw [if_pos (by omega), hw]
theorem twice_ev (a n : Nat) (hn : n ≤ 100000) (hs : Sm (a * 2 ^ n)) : Ev (fun k => bakeref2_nat_twice.f k (dig a) (n : Int)) (dig (a * 2 ^ n)) := by
  unfold bakeref2_nat_twice.f
  exact twice_loop n hn n 0 a (by omega) hs
theorem add_num (a b A B D : Nat) (hA : A = a * 16777216) (hB : B = b * 16777216) : (a * D + b) * 33554432 = 2 * (A + B / D) * D + 2 * (B % D) := by
  have h := Nat.div_add_mod B D
  rw [Nat.mul_comm D] at h
  generalize B / D = q at h ⊢
  generalize B % D = r at h ⊢
  rw [Nat.mul_assoc 2, Nat.add_mul A, hA, Nat.mul_right_comm a]
  generalize a * D = z
  generalize q * D = w at h ⊢
  omega
theorem sub_num (a b B D : Nat) (hB : B = b * 16777216) : (a * D - b) * 33554432 + 2 * (B % D) + 2 * (B / D) * D = a * D * 33554432 ∨ a * D < b := by
  have h := Nat.div_add_mod B D
  rw [Nat.mul_comm D] at h
  generalize B / D = q at h ⊢
  generalize B % D = r at h ⊢
  rw [Nat.mul_assoc 2]
  generalize a * D = z
  generalize q * D = w at h ⊢
  omega
theorem aD_num (a A D : Nat) (hA : A = a * 16777216) : a * D * 33554432 = 2 * A * D := by
  rw [Nat.mul_assoc 2, hA, Nat.mul_right_comm a 16777216]
  generalize a * D = z
  omega
theorem lost_num (b B d : Nat) (hB : B = b * 16777216) (h : ¬ B % 2 ^ d = 0) : 25 ≤ d := by
  rcases Nat.lt_or_ge d 25 with c | c
  · exfalso
    apply h
    have e : (16777216 : Nat) = 2 ^ (24 - d) * 2 ^ d := by rw [← Nat.pow_add, show 24 - d + d = 24 by omega]
    rw [hB, e, ← Nat.mul_assoc]
    exact Nat.mul_mod_left _ _
  · exact c
theorem bq_num (B d c : Nat) (hb : B < 2 ^ 56) (hc : c ≤ d) (hc2 : c ≤ 56) : B / 2 ^ d < 2 ^ (56 - c) := by
  rw [Nat.div_lt_iff_lt_mul (Nat.pow_pos (by decide)), ← Nat.pow_add]
  exact Nat.lt_of_lt_of_le hb (Nat.pow_le_pow_right (by decide) (by omega))
theorem b_small (B d : Nat) (hb : B < 2 ^ 56) (hd : 60 < d) : B < 2 ^ d := Nat.lt_of_lt_of_le hb (Nat.pow_le_pow_right (by decide) (by omega))
def lostBit (B d : Nat) : Nat := if B % 2 ^ d = 0 then 0 else 1
theorem add_j2 (k : Nat) (s t : Bool) (A q l : Nat) (x : Int) (hA : A < 72057594037927936) (hq : q ≤ A) (hl : l ≤ 1) (hql : 2 * q + l ≤ 2 * A) (hx : -2000 ≤ x ∧ x ≤ 2000) : five_Add.j2 (k + 1) s (A : Int) x t (q : Int) (l : Int) =
    if (s == t) = true then ((five_pack.f k s ((2 * (A + q) + l : Nat) : Int) (x - 25) false).bind fun bt139 => (some (bt139.1, bt139.2.1, bt139.2.2.1, bt139.2.2.2.1, bt139.2.2.2.2.1, bt139.2.2.2.2.2))) else ((five_pack.f k s ((2 * (A - q) - l : Nat) : Int) (x - 25) false).bind fun bt145 => (some (bt145.1, bt145.2.1, bt145.2.2.1, bt145.2.2.2.1, bt145.2.2.2.2.1, bt145.2.2.2.2.2))) := by
  have e1 : Go.bits .or .u64 (IntKind.u64.wrap ((IntKind.u64.wrap ((A : Int) + (q : Int))) * 2)) (l : Int) = ((2 * (A + q) + l : Nat) : Int) := by
    rw [wu64 ((A : Int) + (q : Int)) (by omega) (by omega), wu64 _ (by omega) (by omega), bits_join .u64 64 (by decide) wraps_u64 1 _ _ (by omega) (by omega) (by omega) (by omega) (by omega) (by omega)]
    omega
  have e2 : IntKind.u64.wrap ((IntKind.u64.wrap ((IntKind.u64.wrap ((A : Int) - (q : Int))) * 2)) - (l : Int)) = ((2 * (A - q) - l : Nat) : Int) := by
    rw [wu64 ((A : Int) - (q : Int)) (by omega) (by omega), wu64 (((A : Int) - (q : Int)) * 2) (by omega) (by omega), wu64 _ (by omega) (by omega)]
    omega
  have e3 : wrap64 (x - 25) = x - 25 := w64 _ (by omega) (by omega)
  simp only [five_Add.j2]
  rw [e1, e2, e3]
theorem add_sorted (s t : Bool) (a b A B d : Nat) (hAa : A = a * 16777216) (hBb : B = b * 16777216) (y : Int) (ha0 : 2147483648 ≤ a) (ha1 : a < 4294967296) (hb0 : 2147483648 ≤ b) (hb1 : b < 4294967296) (hd : d ≤ 300) (hy : -1000 ≤ y ∧ y ≤ 1000) (h0 : d = 0 → b ≤ a) :
    ∃ r, Ev (fun k => five_Add.j1 k s (a : Int) (y + d) t (b : Int) y) r ∧ (s = t → Ev (fun k => bakeref2_nearest.f k s (dig (a * 2 ^ d + b)) [1] y) r) ∧ (s ≠ t → b < a * 2 ^ d → Ev (fun k => bakeref2_nearest.f k s (dig (a * 2 ^ d - b)) [1] y) r) ∧ (s ≠ t → a * 2 ^ d = b → r = (0, 0, 0, 0, 0, 0)) := by
  have hpd : 0 < 2 ^ d := Nat.pow_pos (by decide)
  have hA : A < 72057594037927936 := by omega
  have hB56 : B < 2 ^ 56 := by omega
  have hq1 : 1 ≤ d → B / 2 ^ d < 36028797018963968 := fun h => bq_num B d 1 hB56 h (by decide)
  have hq0 : d = 0 → B / 2 ^ d = B := fun h => by rw [h]; simp
  have hq25 : 25 ≤ d → B / 2 ^ d < 2147483648 := fun h => bq_num B d 25 hB56 h (by decide)
  have hlz : B % 2 ^ d = 0 → lostBit B d = 0 := fun h => if_pos h
  have hlo : ¬ B % 2 ^ d = 0 → lostBit B d = 1 ∧ 25 ≤ d := fun h => ⟨if_neg h, lost_num b B d hBb h⟩
  have hrl := Nat.mod_lt (B) hpd
  have hl1 : lostBit B d ≤ 1 := by unfold lostBit; split <;> omega
  have hl25 : lostBit B d = 1 → 25 ≤ d := fun h => by
    by_cases c : B % 2 ^ d = 0
    · rw [hlz c] at h; omega
    · exact (hlo c).2
  have hadd := add_num a b A B (2 ^ d) hAa hBb
  have hsub := sub_num a b B (2 ^ d) hBb
  have hj1 : ∀ k, five_Add.j1 (k + 1) s (a : Int) (y + d) t (b : Int) y = five_Add.j2 k s (A : Int) (y + d) t ((B / 2 ^ d : Nat) : Int) ((lostBit B d : Nat) : Int) := by
    intro k
    have w1 : IntKind.u64.wrap ((a : Int) * 16777216) = (A : Int) := by rw [wu64 _ (by omega) (by omega)]; omega
    have w2 : IntKind.u64.wrap ((b : Int) * 16777216) = (B : Int) := by rw [wu64 _ (by omega) (by omega)]; omega
    have w3 : wrap64 (y + (d : Int) - y) = (d : Int) := by rw [w64 _ (by omega) (by omega)]; omega
    simp only [five_Add.j1]
    rw [w1, w2, w3]
    clear w1 w2 w3
    by_cases c : (d : Int) > 60
    · rw [if_pos c]
      have hbig : B < 2 ^ d := b_small B d hB56 (by omega)
      have z1 : B / 2 ^ d = 0 := Nat.div_eq_of_lt hbig
      have z2 : lostBit B d = 1 := (hlo (by rw [Nat.mod_eq_of_lt hbig]; omega)).1
      rw [z1, z2]; rfl
    · rw [if_neg c, if_pos (by omega), maskU B d (by omega) (by omega), shrU B d (by omega)]
      by_cases e : B % 2 ^ d = 0
      · rw [if_pos (by omega), hlz e]; rfl
      · rw [if_neg (by omega), (hlo e).1]; rfl
  have hge : a ≤ a * 2 ^ d := Nat.le_mul_of_pos_right _ hpd
  have hlostD : lostBit B d = 1 → 0 < B % 2 ^ d := fun h => by
    rcases Nat.eq_zero_or_pos (B % 2 ^ d) with c | c
    · rw [hlz c] at h; omega
    · exact c
  have hlostZ : ¬ lostBit B d = 1 → B % 2 ^ d = 0 := fun h => by
    by_cases c : B % 2 ^ d = 0
    · exact c
    · exact absurd (hlo c).1 h
  have haD := aD_num a A (2 ^ d) hAa
  clear hlz hlo
  generalize lostBit B d = l at *
  generalize B / 2 ^ d = q at *
  generalize B % 2 ^ d = rB at *
  have hqA : q ≤ A := by
    rcases Nat.eq_zero_or_pos d with c | c
    · have := hq0 c; have := h0 c; omega
    · have := hq1 c; omega
  have hqlA : 2 * q + l ≤ 2 * A := by
    by_cases c : l = 1
    · have := hq25 (hl25 c); omega
    · omega
  have hj2 := fun k => add_j2 k s t A q l (y + d) hA hqA hl1 hqlA (by omega)
  by_cases hst : s = t
  · subst hst
    have hs : N_stick (a * 2 ^ d + b) (2 * (A + q) + l) d := by
      unfold N_stick
      show (a * 2 ^ d + b) * 33554432 = _ ∨ _
      rw [hadd]
      by_cases c : l = 1
      · refine .inr ⟨by omega, by omega, hl25 c, ?_, ?_⟩
        · rw [c, show 2 * (A + q) + 1 + 1 = 2 * (A + q) + 2 by omega, Nat.add_mul (2 * (A + q))]
          show (2 * (A + q) * 2 ^ d + 2 * rB) < _
          omega
        · rw [c, show 2 * (A + q) + 1 - 1 = 2 * (A + q) by omega]
          have := hlostD c
          show _ < (2 * (A + q) * 2 ^ d + 2 * rB)
          omega
      · have := hlostZ c
        refine .inl ?_
        rw [this, show l = 0 by omega]; rfl
    obtain ⟨r, r1, r2⟩ := near_stick s (a * 2 ^ d + b) (2 * (A + q) + l) d y (by omega) (by omega) (by omega) (by omega) (by omega) hs
    refine ⟨r, Ev.step hj1 (Ev.step hj2 (Ev.pos (by simp) (Ev.bind r1 (Ev.all fun k => rfl)))), fun _ => r2, fun h => absurd rfl h, fun h => absurd rfl h⟩
  · have hbt : ¬ (s == t) = true := by simpa using hst
    by_cases hz : a * 2 ^ d = b
    · have hm0 : 2 * (A - q) - l = 0 := by
        have d0 : d = 0 := by
          rcases Nat.eq_zero_or_pos d with c | c
          · exact c
          · exfalso
            have : a * 2 ≤ a * 2 ^ d := Nat.mul_le_mul_left _ (by have := Nat.pow_le_pow_right (n := 2) (by decide) c; omega)
            omega
        have := hq0 d0
        subst d0
        simp at hz
        omega
      refine ⟨(0, 0, 0, 0, 0, 0), Ev.step hj1 (Ev.step hj2 (Ev.neg hbt (Ev.bind (a := (0, 0, 0, 0, 0, 0)) ?_ (Ev.all fun k => rfl)))), fun h => absurd h hst, fun _ h => by omega, fun _ _ => rfl⟩
      rw [hm0]
      unfold five_pack.f
      exact Ev.pos rfl (Ev.all fun k => rfl)
    · by_cases hlt : b < a * 2 ^ d
      · have hm : 0 < 2 * (A - q) - l := by
          by_cases c : l = 1
          · have := hq25 (hl25 c); omega
          · rcases Nat.eq_zero_or_pos d with e | e
            · have := hq0 e
              subst e
              simp at hlt
              omega
            · have := hq1 e; omega
        have hs : N_stick (a * 2 ^ d - b) (2 * (A - q) - l) d := by
          have h1 := hsub.resolve_right (by omega)
          rw [haD] at h1
          unfold N_stick
          show (a * 2 ^ d - b) * 33554432 = _ ∨ _
          have e : 2 * A * 2 ^ d = 2 * (A - q) * 2 ^ d + 2 * q * 2 ^ d := by rw [← Nat.add_mul]; congr 1; omega
          rw [e] at h1
          by_cases c : l = 1
          · have h25 := hq25 (hl25 c)
            refine .inr ⟨by omega, by omega, hl25 c, ?_, ?_⟩
            · rw [c, show 2 * (A - q) - 1 + 1 = 2 * (A - q) by omega]
              have := hlostD c
              show (a * 2 ^ d - b) * 33554432 < _
              omega
            · have e2 : 2 * (A - q) * 2 ^ d = (2 * (A - q) - 1 - 1) * 2 ^ d + 2 * 2 ^ d := by rw [← Nat.add_mul]; congr 1; omega
              rw [e2] at h1
              rw [c]
              show _ < (a * 2 ^ d - b) * 33554432
              omega
          · have := hlostZ c
            refine .inl ?_
            rw [show l = 0 by omega, Nat.sub_zero]
            show (a * 2 ^ d - b) * 33554432 = 2 * (A - q) * 2 ^ d
            rw [this] at h1
            clear hadd
            generalize (a * 2 ^ d - b) * 33554432 = z1 at h1 ⊢
            generalize 2 * (A - q) * 2 ^ d = z2 at h1 ⊢
            generalize 2 * q * 2 ^ d = z3 at h1
            clear hsub
            omega
        obtain ⟨r, r1, r2⟩ := near_stick s (a * 2 ^ d - b) (2 * (A - q) - l) d y hm (by omega) (by omega) (by omega) (by omega) hs
        exact ⟨r, Ev.step hj1 (Ev.step hj2 (Ev.neg hbt (Ev.bind r1 (Ev.all fun k => rfl)))), fun h => absurd h hst, fun _ _ => r2, fun _ h => absurd h hz⟩
      · exfalso
        rcases Nat.eq_zero_or_pos d with c | c
        · have := h0 c
          subst c
          simp at hlt hz
          omega
        · have : a * 2 ≤ a * 2 ^ d := Nat.mul_le_mul_left _ (by have := Nat.pow_le_pow_right (n := 2) (by decide) c; omega)
          omega
theorem pow300 : 2 ^ 300 ≤ 10000 ^ 30 := by
  have := Nat.pow_le_pow_left (show 2 ^ 10 ≤ 10000 by decide) 30
  rw [← Nat.pow_mul, show 10 * 30 = 300 from rfl] at this
  exact this
theorem sm300 (a d : Nat) (ha : a < 4294967296) (hd : d ≤ 300) : Sm (a * 2 ^ d) := by
  refine sm_pow ?_
  have h1 : a * 2 ^ d ≤ 4294967296 * 10000 ^ 30 := Nat.mul_le_mul (Nat.le_of_lt ha) (Nat.le_trans (Nat.pow_le_pow_right (by decide) hd) pow300)
  exact Nat.lt_of_le_of_lt h1 (by decide)
theorem le301 (a b D P : Nat) (ha : a < 4294967296) (hb : b < 4294967296) (hD : D ≤ P) (hP : 1 ≤ P) : a * D + b ≤ 8589934592 * P := by
  have h1 : a * D ≤ 4294967296 * P := Nat.mul_le_mul (by omega) hD
  have h3 : 4294967296 * 1 ≤ 4294967296 * P := Nat.mul_le_mul_left _ hP
  omega
theorem sm301 (a b d : Nat) (ha : a < 4294967296) (hb : b < 4294967296) (hd : d ≤ 300) : Sm (a * 2 ^ d + b) :=
  sm_pow (Nat.lt_of_le_of_lt (le301 a b (2 ^ d) (10000 ^ 30) ha hb (Nat.le_trans (Nat.pow_le_pow_right (by decide) hd) pow300) (Nat.pow_pos (by decide))) (by decide))
/-- what the reference does with two numbers of one exponent -/
def Body (s t : Bool) (P Q : List Int) (low : Int) (k : Nat) : Option (Int × Int × Int × Int × Int × Int) :=
  if (s == t) = true then ((bakeref2_nat_plus.f k P Q 1).bind fun t274 => ((bakeref2_nearest.f k s t274 (([1] : List Int)) low).bind fun bt280 => (some (bt280.1, bt280.2.1, bt280.2.2.1, bt280.2.2.2.1, bt280.2.2.2.2.1, bt280.2.2.2.2.2)))) else ((bakeref2_nat_less.f k P Q).bind fun t286 => (if t286 = true then ((bakeref2_nat_plus.f k Q P (-1)).bind fun t287 => ((bakeref2_nearest.f k t t287 (([1] : List Int)) low).bind fun bt293 => (some (bt293.1, bt293.2.1, bt293.2.2.1, bt293.2.2.2.1, bt293.2.2.2.2.1, bt293.2.2.2.2.2)))) else ((bakeref2_nat_less.f k Q P).bind fun t299 => (if t299 = true then ((bakeref2_nat_plus.f k P Q (-1)).bind fun t300 => ((bakeref2_nearest.f k s t300 (([1] : List Int)) low).bind fun bt306 => (some (bt306.1, bt306.2.1, bt306.2.2.1, bt306.2.2.2.1, bt306.2.2.2.2.1, bt306.2.2.2.2.2)))) else (some (0, 0, 0, 0, 0, 0))))))
theorem body_ev (s t : Bool) (P Q : Nat) (low : Int) (r : Int × Int × Int × Int × Int × Int) (sP : Sm P) (sQ : Sm Q) (h1 : s = t → Ev (fun k => bakeref2_nearest.f k s (dig (P + Q)) [1] low) r) (h2 : s ≠ t → P < Q → Ev (fun k => bakeref2_nearest.f k t (dig (Q - P)) [1] low) r)
    (h3 : s ≠ t → Q < P → Ev (fun k => bakeref2_nearest.f k s (dig (P - Q)) [1] low) r) (h4 : s ≠ t → P = Q → r = (0, 0, 0, 0, 0, 0)) : Ev (Body s t (dig P) (dig Q) low) r := by
  unfold Body
  by_cases hst : s = t
  · exact Ev.pos (by simpa using hst) (Ev.bind (plus_ev P Q (P + Q) 1 (.inl rfl) (by omega) sP sQ) (Ev.bind (h1 hst) (Ev.all fun k => rfl)))
  · refine Ev.neg (by simpa using hst) (Ev.bind (less_ev P Q sP sQ) ?_)
    by_cases c1 : P < Q
    · exact Ev.pos (decide_eq_true c1) (Ev.bind (plus_ev Q P (Q - P) (-1) (.inr rfl) (by omega) sQ sP) (Ev.bind (h2 hst c1) (Ev.all fun k => rfl)))
    · refine Ev.neg (by rw [decide_eq_true_iff]; exact c1) (Ev.bind (less_ev Q P sQ sP) ?_)
      by_cases c2 : Q < P
      · exact Ev.pos (decide_eq_true c2) (Ev.bind (plus_ev P Q (P - Q) (-1) (.inr rfl) (by omega) sP sQ) (Ev.bind (h3 hst c2) (Ev.all fun k => rfl)))
      · refine Ev.neg (by rw [decide_eq_true_iff]; exact c2) ?_
        rw [h4 hst (by omega)]
        exact Ev.all fun k => rfl
/-- what the program does with two numbers that are not 0 -/
def Sorted (s : Bool) (a x : Int) (t : Bool) (b y : Int) (k : Nat) : Option (Int × Int × Int × Int × Int × Int) :=
  if x < y then (five_Add.j0 k s a x t b y true) else (if x = y then (five_Add.j0 k s a x t b y (decide (a < b))) else (five_Add.j0 k s a x t b y false))
theorem j0_keep (s t : Bool) (a x b y : Int) (k : Nat) : five_Add.j0 (k + 1) s a x t b y false = five_Add.j1 k s a x t b y := by simp only [five_Add.j0]; rfl
theorem j0_swap (s t : Bool) (a x b y : Int) (k : Nat) : five_Add.j0 (k + 1) s a x t b y true = five_Add.j1 k t b y s a x := by simp only [five_Add.j0]; rfl
theorem core_ev (s t : Bool) (a b : Nat) (x y : Int) (ha0 : 2147483648 ≤ a) (ha1 : a < 4294967296) (hb0 : 2147483648 ≤ b) (hb1 : b < 4294967296) (hx : -159 ≤ x ∧ x ≤ 95) (hy : -159 ≤ y ∧ y ≤ 95) :
    ∃ r, Ev (Sorted s (a : Int) x t (b : Int) y) r ∧ Ev (fun k => (bakeref2_nat_twice.f k (dig a) (wrap64 (x - (mn x y)))).bind fun t268 => ((bakeref2_nat_twice.f k (dig b) (wrap64 (y - (mn x y)))).bind fun t271 => Body s t t268 t271 (mn x y) k)) r := by
  by_cases hsw : x < y ∨ (x = y ∧ a < b)
  · -- the second one is greater
    obtain ⟨d, hd⟩ : ∃ d : Nat, y = x + d := ⟨(y - x).toNat, by omega⟩
    have hmn : mn x y = x := by unfold mn; split <;> omega
    obtain ⟨r, r1, r2, r3, r4⟩ := add_sorted t s b a (b * 16777216) (a * 16777216) d rfl rfl x hb0 hb1 ha0 ha1 (by omega) (by omega) (by omega)
    rw [← hd] at r1
    refine ⟨r, ?_, ?_⟩
    · have r1' : Ev (fun k => five_Add.j0 k s (a : Int) x t (b : Int) y true) r := Ev.step (fun k => j0_swap s t (a : Int) x (b : Int) y k) r1
      unfold Sorted
      by_cases c : x < y
      · exact Ev.pos c r1'
      · refine Ev.neg c (Ev.pos (by omega) ?_)
        rw [decide_eq_true (by omega : (a : Int) < (b : Int))]
        exact r1'
    · have w1 : wrap64 (x - x) = ((0 : Nat) : Int) := by rw [w64 _ (by omega) (by omega)]; omega
      have w2 : wrap64 (y - x) = (d : Int) := by rw [w64 _ (by omega) (by omega)]; omega
      rw [hmn, w1, w2]
      clear w1 w2
      have sA : Sm (a * 2 ^ 0) := sm300 a 0 ha1 (by omega)
      have sB : Sm (b * 2 ^ d) := sm300 b d hb1 (by omega)
      refine Ev.bind (twice_ev a 0 (by omega) sA) (Ev.bind (twice_ev b d (by omega) sB) ?_)
      have e0 : a * 2 ^ 0 = a := by simp
      rw [e0]
      refine body_ev s t a (b * 2 ^ d) x r (by rw [← e0]; exact sA) sB (fun h => ?_) (fun h c => r3 (fun e => h e.symm) c) (fun h c => ?_) (fun h c => r4 (fun e => h e.symm) c.symm)
      · rw [Nat.add_comm, h]; exact r2 h.symm
      · exfalso
        rcases Nat.eq_zero_or_pos d with e | e
        · subst e; simp at c; omega
        · have : b * 2 ≤ b * 2 ^ d := Nat.mul_le_mul_left _ (by have := Nat.pow_le_pow_right (n := 2) (by decide) e; omega)
          omega
  · obtain ⟨d, hd⟩ : ∃ d : Nat, x = y + d := ⟨(x - y).toNat, by omega⟩
    have hmn : mn x y = y := by unfold mn; split <;> omega
    obtain ⟨r, r1, r2, r3, r4⟩ := add_sorted s t a b (a * 16777216) (b * 16777216) d rfl rfl y ha0 ha1 hb0 hb1 (by omega) (by omega) (by omega)
    rw [← hd] at r1
    refine ⟨r, ?_, ?_⟩
    · have r1' : Ev (fun k => five_Add.j0 k s (a : Int) x t (b : Int) y false) r := Ev.step (fun k => j0_keep s t (a : Int) x (b : Int) y k) r1
      unfold Sorted
      refine Ev.neg (by omega) ?_
      by_cases c : x = y
      · refine Ev.pos c ?_
        rw [decide_eq_false (by omega : ¬ (a : Int) < (b : Int))]
        exact r1'
      · exact Ev.neg c r1'
    · have w1 : wrap64 (x - y) = (d : Int) := by rw [w64 _ (by omega) (by omega)]; omega
      have w2 : wrap64 (y - y) = ((0 : Nat) : Int) := by rw [w64 _ (by omega) (by omega)]; omega
      rw [hmn, w1, w2]
      clear w1 w2
      have sA : Sm (a * 2 ^ d) := sm300 a d ha1 (by omega)
      have sB : Sm (b * 2 ^ 0) := sm300 b 0 hb1 (by omega)
      refine Ev.bind (twice_ev a d (by omega) sA) (Ev.bind (twice_ev b 0 (by omega) sB) ?_)
      have e0 : b * 2 ^ 0 = b := by simp
      rw [e0]
      refine body_ev s t (a * 2 ^ d) b y r sA (by rw [← e0]; exact sB) (fun h => r2 h) (fun h c => ?_) (fun h c => r3 h c) (fun h c => r4 h c)
      exfalso
      rcases Nat.eq_zero_or_pos d with e | e
      · subst e; simp at c; omega
      · have : a * 2 ≤ a * 2 ^ d := Nat.mul_le_mul_left _ (by have := Nat.pow_le_pow_right (n := 2) (by decide) e; omega)
        omega
structure B5 (a0 a1 a2 a3 a4 : Int) : Prop where
  b0 : By a0
  b1 : By a1
  b2 : By a2
  b3 : By a3
  b4 : By a4
theorem both_ev (a0 a1 a2 a3 a4 c0 c1 c2 c3 c4 : Int) : five_both.f a0 a1 a2 a3 a4 c0 c1 c2 c3 c4 = some (if chk a0 a1 a2 a3 a4 = 0 then chk c0 c1 c2 c3 c4 else chk a0 a1 a2 a3 a4) := by
  unfold five_both.f
  rw [check_ev, check_ev]
  show (if chk a0 a1 a2 a3 a4 = 0 then _ else _) = _
  split <;> rfl
/-- The sum, both ways. -/
theorem add_ev (a0 a1 a2 a3 a4 c0 c1 c2 c3 c4 : Int) (ba : B5 a0 a1 a2 a3 a4) (bc : B5 c0 c1 c2 c3 c4) : ∃ r, Ev (fun k => five_Add.f k a0 a1 a2 a3 a4 c0 c1 c2 c3 c4) r ∧ Ev (fun k => bakeref2_FivePlus.f k a0 a1 a2 a3 a4 c0 c1 c2 c3 c4) r := by
  have hE := err_ev a0 a1 a2 a3 a4 ba.b1 ba.b2 ba.b3 ba.b4
  have hF := err_ev c0 c1 c2 c3 c4 bc.b1 bc.b2 bc.b3 bc.b4
  have hB := both_ev a0 a1 a2 a3 a4 c0 c1 c2 c3 c4
  have head : ∀ r, (chk a0 a1 a2 a3 a4 ≠ 0 → r = (0, 0, 0, 0, 0, chk a0 a1 a2 a3 a4)) → (chk a0 a1 a2 a3 a4 = 0 → chk c0 c1 c2 c3 c4 ≠ 0 → r = (0, 0, 0, 0, 0, chk c0 c1 c2 c3 c4)) →
      (chk a0 a1 a2 a3 a4 = 0 → chk c0 c1 c2 c3 c4 = 0 → Ev (fun k => bakeref2_FivePlus.l0 k [(⟨a0, a1, a2, a3, a4⟩ : S57), (⟨c0, c1, c2, c3, c4⟩ : S57)] 2 2 a0 a1 a2 a3 a4 c0 c1 c2 c3 c4) r) → Ev (fun k => bakeref2_FivePlus.f k a0 a1 a2 a3 a4 c0 c1 c2 c3 c4) r := by
    intro r h1 h2 h3
    unfold bakeref2_FivePlus.f
    refine Ev.bind (Ev.all fun k => rfl) ?_
    refine Ev.step (fun k => bakeref2_FivePlus.l0.eq_2 _ _ _ _ _ _ _ _ _ _ _ _ _ k) (Ev.pos (by simp) (Ev.pos (by decide) (Ev.pos (by simp) (Ev.bind (Ev.all fun k => hE) ?_))))
    by_cases e1 : chk a0 a1 a2 a3 a4 = 0
    · refine Ev.pos e1 ?_
      have w1 : wrap64 ((0 : Int) + 1) = 1 := w64 _ (by omega) (by omega)
      rw [w1]
      refine Ev.step (fun k => bakeref2_FivePlus.l0.eq_2 _ _ _ _ _ _ _ _ _ _ _ _ _ k) (Ev.pos (by simp) (Ev.pos (by decide) (Ev.pos (by simp) (Ev.bind (Ev.all fun k => hF) ?_))))
      by_cases e2 : chk c0 c1 c2 c3 c4 = 0
      · refine Ev.pos e2 ?_
        have w2 : wrap64 ((1 : Int) + 1) = 2 := w64 _ (by omega) (by omega)
        rw [w2]
        exact h3 e1 e2
      · refine Ev.neg e2 ?_
        rw [h2 e1 e2]
        exact Ev.all fun k => rfl
    · refine Ev.neg e1 ?_
      rw [h1 e1]
      exact Ev.all fun k => rfl
  by_cases e1 : chk a0 a1 a2 a3 a4 = 0
  · rw [if_pos e1] at hB
    by_cases e2 : chk c0 c1 c2 c3 c4 = 0
    · rw [e2] at hB
      have pA := parts_ev a0 a1 a2 a3 a4 ba.b0 ba.b1 ba.b2 ba.b3 ba.b4
      have pC := parts_ev c0 c1 c2 c3 c4 bc.b0 bc.b1 bc.b2 bc.b3 bc.b4
      have mA := mant_b (vv_cast ba.b1 ba.b2 ba.b3 ba.b4).2
      have mC := mant_b (vv_cast bc.b1 bc.b2 bc.b3 bc.b4).2
      have sA := split_ev a0 a1 a2 a3 a4 ba.b0 ba.b1 ba.b2 ba.b3 ba.b4
      have sC := split_ev c0 c1 c2 c3 c4 bc.b0 bc.b1 bc.b2 bc.b3 bc.b4
      by_cases z1 : a0 = 0
      · rw [if_pos z1] at pA
        refine ⟨(c0, c1, c2, c3, c4, 0), ?_, head _ (fun h => absurd e1 h) (fun _ h => absurd e2 h) (fun _ _ => ?_)⟩
        · unfold five_Add.f
          exact Ev.bind (Ev.all fun k => hB) (Ev.pos rfl (Ev.bind (Ev.all fun k => pA) (Ev.bind (Ev.all fun k => pC) (Ev.pos rfl (Ev.all fun k => rfl)))))
        · exact Ev.step (fun k => bakeref2_FivePlus.l0.eq_2 _ _ _ _ _ _ _ _ _ _ _ _ _ k) (Ev.neg (by decide) (Ev.pos z1 (Ev.all fun k => rfl)))
      · rw [if_neg z1] at pA
        by_cases z2 : c0 = 0
        · rw [if_pos z2] at pC
          refine ⟨(a0, a1, a2, a3, a4, 0), ?_, head _ (fun h => absurd e1 h) (fun _ h => absurd e2 h) (fun _ _ => ?_)⟩
          · unfold five_Add.f
            refine Ev.bind (Ev.all fun k => hB) (Ev.pos rfl (Ev.bind (Ev.all fun k => pA) (Ev.bind (Ev.all fun k => pC) (Ev.neg ?_ (Ev.pos rfl (Ev.all fun k => rfl))))))
            show ¬ ((mant (vv a1 a2 a3 a4) : Nat) : Int) = 0
            generalize mant (vv a1 a2 a3 a4) = z at mA ⊢
            omega
          · exact Ev.step (fun k => bakeref2_FivePlus.l0.eq_2 _ _ _ _ _ _ _ _ _ _ _ _ _ k) (Ev.neg (by decide) (Ev.neg z1 (Ev.pos z2 (Ev.all fun k => rfl))))
        · rw [if_neg z2] at pC
          have ba0 := ba.b0
          have bc0 := bc.b0
          unfold By at ba0 bc0
          have hx : -159 ≤ a0 - 160 ∧ a0 - 160 ≤ 95 := by omega
          have hy : -159 ≤ c0 - 160 ∧ c0 - 160 ≤ 95 := by omega
          clear head
          have body : ∀ r, Ev (fun k => bakeref2_FivePlus.l0 k [(⟨a0, a1, a2, a3, a4⟩ : S57), (⟨c0, c1, c2, c3, c4⟩ : S57)] 2 2 a0 a1 a2 a3 a4 c0 c1 c2 c3 c4) r → Ev (fun k => bakeref2_FivePlus.f k a0 a1 a2 a3 a4 c0 c1 c2 c3 c4) r := by
            intro r h3
            unfold bakeref2_FivePlus.f
            refine Ev.bind (Ev.all fun k => rfl) ?_
            refine Ev.step (fun k => bakeref2_FivePlus.l0.eq_2 _ _ _ _ _ _ _ _ _ _ _ _ _ k) (Ev.pos (by simp) (Ev.pos (by decide) (Ev.pos (by simp) (Ev.bind (Ev.all fun k => hE) (Ev.pos e1 ?_)))))
            have w1 : wrap64 ((0 : Int) + 1) = 1 := w64 _ (by omega) (by omega)
            rw [w1]
            refine Ev.step (fun k => bakeref2_FivePlus.l0.eq_2 _ _ _ _ _ _ _ _ _ _ _ _ _ k) (Ev.pos (by simp) (Ev.pos (by decide) (Ev.pos (by simp) (Ev.bind (Ev.all fun k => hF) (Ev.pos e2 ?_)))))
            have w2 : wrap64 ((1 : Int) + 1) = 2 := w64 _ (by omega) (by omega)
            rw [w2]
            exact h3
          generalize a0 - 160 = x at *
          generalize c0 - 160 = y at *
          generalize mant (vv a1 a2 a3 a4) = a at *
          generalize mant (vv c1 c2 c3 c4) = b at *
          generalize decide (2147483648 ≤ vv a1 a2 a3 a4) = s at *
          generalize decide (2147483648 ≤ vv c1 c2 c3 c4) = t at *
          obtain ⟨r, r1, r2⟩ := core_ev s t a b x y mA.1 mA.2 mC.1 mC.2 hx hy
          refine ⟨r, ?_, body r ?_⟩
          · unfold five_Add.f
            refine Ev.bind (Ev.all fun k => hB) (Ev.pos rfl (Ev.bind (Ev.all fun k => pA) (Ev.bind (Ev.all fun k => pC) (Ev.neg ?_ (Ev.neg ?_ r1)))))
            · show ¬ (a : Int) = 0
              omega
            · show ¬ (b : Int) = 0
              omega
          · exact Ev.step (fun k => bakeref2_FivePlus.l0.eq_2 _ _ _ _ _ _ _ _ _ _ _ _ _ k) (Ev.neg (by decide) (Ev.neg z1 (Ev.neg z2 (Ev.bind sA (Ev.bind sC r2)))))
    · refine ⟨(0, 0, 0, 0, 0, chk c0 c1 c2 c3 c4), ?_, head _ (fun h => absurd e1 h) (fun _ _ => rfl) (fun _ h => absurd h e2)⟩
      unfold five_Add.f
      exact Ev.bind (Ev.all fun k => hB) (Ev.neg e2 (Ev.all fun k => rfl))
  · rw [if_neg e1] at hB
    refine ⟨(0, 0, 0, 0, 0, chk a0 a1 a2 a3 a4), ?_, head _ (fun _ => rfl) (fun h => absurd h e1) (fun h => absurd h e1)⟩
    unfold five_Add.f
    exact Ev.bind (Ev.all fun k => hB) (Ev.neg e1 (Ev.all fun k => rfl))
theorem xor128_all : ∀ i : Fin 256, i.1 ^^^ 128 = if i.1 < 128 then i.1 + 128 else i.1 - 128 := by decide +kernel
def ng (a0 a1 : Int) : Int := if a0 = 0 then a1 else if a1 < 128 then a1 + 128 else a1 - 128
theorem neg_ev (a0 a1 a2 a3 a4 : Int) (b1 : By a1) : five_Neg.f a0 a1 a2 a3 a4 = some (a0, ng a0 a1, a2, a3, a4) := by
  unfold five_Neg.f ng
  by_cases h : a0 = 0
  · rw [if_pos h, if_pos h]
  · rw [if_neg h, if_neg h]
    unfold By at b1
    obtain ⟨n, hn⟩ : ∃ n : Nat, a1 = (n : Int) := ⟨a1.toNat, by omega⟩
    subst hn
    have hx := xor8 n 128 (by omega) (by omega)
    rw [show ((128 : Nat) : Int) = 128 from rfl] at hx
    rw [hx, xor128_all ⟨n, by omega⟩]
    by_cases c : n < 128
    · rw [if_pos (by exact c), if_pos (by omega)]; rfl
    · have e : ((n - 128 : Nat) : Int) = (n : Int) - 128 := by omega
      rw [if_neg (by exact c), if_neg (by omega), e]
theorem opp_ev (a0 a1 a2 a3 a4 : Int) (b0 : By a0) (b1 : By a1) : Ev (fun k => bakeref2_Opposite.f k a0 a1 a2 a3 a4) (a0, ng a0 a1, a2, a3, a4) := by
  unfold By at b0 b1
  unfold bakeref2_Opposite.f ng
  by_cases h : a0 = 0
  · rw [if_pos h]
    refine Ev.neg (by omega) (Ev.done fun k => ?_)
    simp only [bakeref2_Opposite.j0]
    rw [if_neg (by decide), if_neg (by omega)]
  · rw [if_neg h]
    refine Ev.pos (by omega) (Ev.done fun k => ?_)
    simp only [bakeref2_Opposite.j0]
    by_cases c : a1 < 128
    · rw [if_pos (decide_eq_true c), if_pos c, show (a1 + 128) % 256 = a1 + 128 by omega]
    · rw [if_neg (by rw [decide_eq_true_iff]; exact c), if_neg c, if_pos (by omega), show (a1 - 128) % 256 = a1 - 128 by omega]
theorem ng_by {a0 a1 : Int} (b1 : By a1) : By (ng a0 a1) := by
  unfold By at b1 ⊢
  unfold ng
  split
  · exact b1
  · split <;> omega
/-- The difference, both ways. -/
theorem sub_ev (a0 a1 a2 a3 a4 c0 c1 c2 c3 c4 : Int) (ba : B5 a0 a1 a2 a3 a4) (bc : B5 c0 c1 c2 c3 c4) : ∃ r, Ev (fun k => five_Sub.f k a0 a1 a2 a3 a4 c0 c1 c2 c3 c4) r ∧ Ev (fun k => bakeref2_FiveMinus.f k a0 a1 a2 a3 a4 c0 c1 c2 c3 c4) r := by
  have hE := err_ev a0 a1 a2 a3 a4 ba.b1 ba.b2 ba.b3 ba.b4
  have hF := err_ev c0 c1 c2 c3 c4 bc.b1 bc.b2 bc.b3 bc.b4
  have hB := both_ev a0 a1 a2 a3 a4 c0 c1 c2 c3 c4
  by_cases e1 : chk a0 a1 a2 a3 a4 = 0
  · rw [if_pos e1] at hB
    by_cases e2 : chk c0 c1 c2 c3 c4 = 0
    · rw [e2] at hB
      obtain ⟨r, r1, r2⟩ := add_ev a0 a1 a2 a3 a4 c0 (ng c0 c1) c2 c3 c4 ba ⟨bc.b0, ng_by bc.b1, bc.b2, bc.b3, bc.b4⟩
      have hN := neg_ev c0 c1 c2 c3 c4 bc.b1
      refine ⟨r, ?_, ?_⟩
      · unfold five_Sub.f
        exact Ev.bind (Ev.all fun k => hB) (Ev.pos rfl (Ev.bind (Ev.all fun k => hN) (Ev.bind r1 (Ev.all fun k => rfl))))
      · unfold bakeref2_FiveMinus.f
        exact Ev.bind (Ev.all fun k => hE) (Ev.pos e1 (Ev.bind (Ev.all fun k => hF) (Ev.pos e2 (Ev.bind (opp_ev c0 c1 c2 c3 c4 bc.b0 bc.b1) (Ev.bind r2 (Ev.all fun k => rfl))))))
    · refine ⟨(0, 0, 0, 0, 0, chk c0 c1 c2 c3 c4), ?_, ?_⟩
      · unfold five_Sub.f
        exact Ev.bind (Ev.all fun k => hB) (Ev.neg e2 (Ev.all fun k => rfl))
      · unfold bakeref2_FiveMinus.f
        exact Ev.bind (Ev.all fun k => hE) (Ev.pos e1 (Ev.bind (Ev.all fun k => hF) (Ev.neg e2 (Ev.all fun k => rfl))))
  · rw [if_neg e1] at hB
    refine ⟨(0, 0, 0, 0, 0, chk a0 a1 a2 a3 a4), ?_, ?_⟩
    · unfold five_Sub.f
      exact Ev.bind (Ev.all fun k => hB) (Ev.neg e1 (Ev.all fun k => rfl))
    · unfold bakeref2_FiveMinus.f
      exact Ev.bind (Ev.all fun k => hE) (Ev.neg e1 (Ev.all fun k => rfl))
end Go.Proofs.Ytgiodeiibmbhhaa.BkFiveAdds
