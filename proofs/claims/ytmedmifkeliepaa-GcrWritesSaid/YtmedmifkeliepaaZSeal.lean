/-
  Plain models for CrcSeals: a row followed by its sum; the bits of a row; where two rows of bits differ first and last. No program in sight.
-/
import Derived.Test.YtmedmifkeliepaaZCrc
import Derived.Test.YtmedmifkeliepaaZEv
set_option linter.unusedVariables false
set_option linter.unusedSimpArgs false
namespace Go.Proofs.Ytmedmifkeliepaa.Bk
open Go Go.RowKit Go.Proofs.YtmedmifkeliepaaW.PrintWords Go.Proofs.YtmedmifkeliepaaW.PrintLast Go.Proofs.YtmedmifkeliepaaW.PrintMore
def sumS (s : Nat) (l : List Int) : Nat := l.foldl (fun s c => nx s c.toNat) s
theorem sumS_lt : ∀ (l : List Int) (s : Nat), s < 65536 → sumS s l < 65536
  | [], s, h => h
  | c :: l, s, h => sumS_lt l _ (nx_lt _ _ h)
theorem sumS_append (s : Nat) (a b : List Int) : sumS s (a ++ b) = sumS (sumS s a) b := by unfold sumS; rw [List.foldl_append]
/-- the two bytes of a sum -/
def tail2 (n : Nat) : List Int := [((n / 256 : Nat) : Int), ((n % 256 : Nat) : Int)]
theorem rN_split : ∀ (n : Nat) (x c : Nat), n ≤ 8 → x < 65536 → c < 256 → rN c n x = pN n (x ^^^ (c * 2 ^ (16 - n) % 65536)) := fun n x c hn hx hc => (pN_rN c hc n x hn hx).symm
theorem tN_zero (x : Nat) (hx : x < 65536) : tN x false = 0 ↔ x = 0 := by
  have h : ∀ y : Nat, y < 32768 → (2 * y % 65536) ^^^ 4129 ≠ 0 := by
    intro y hy he
    have := congrArg (fun z : Nat => z % 2) he
    replace this : ((2 * y % 65536) ^^^ 4129) % 2 = 0 := this
    have e2 : ((2 * y % 65536) ^^^ 4129) % 2 = 1 := by
      have := @Nat.xor_mod_two_pow (2 * y % 65536) 4129 1
      simp only [Nat.pow_one] at this
      rw [this, show 2 * y % 65536 % 2 = 0 by omega]
      decide
    rw [e2] at this
    exact absurd this (by decide)
  unfold tN
  by_cases hb : x / 32768 % 2 = 1
  · simp only [hb, decide_true, Bool.true_bne, Bool.not_false, if_true]
    have e : 2 * x % 65536 = 2 * (x - 32768) % 65536 := by omega
    rw [e]
    constructor
    · intro h2; exact absurd h2 (h (x - 32768) (by omega))
    · intro h2; omega
  · have hb' : x / 32768 = 0 := by omega
    simp only [hb', Nat.zero_mod]
    simp
    omega
theorem pN_zero : ∀ (n x : Nat), x < 65536 → (pN n x = 0 ↔ x = 0)
  | 0, x, _ => Iff.rfl
  | n + 1, x, hx => by unfold pN; rw [pN_zero n _ (tN_lt _ _)]; exact tN_zero x hx
/-- a byte equal to the register's upper one moves the lower one up, and nothing else does as much -/
theorem pN_low : ∀ (n y : Nat), n ≤ 8 → y * 2 ^ n < 65536 → pN n y = y * 2 ^ n
  | 0, y, _, _ => by simp [pN]
  | n + 1, y, hn, hy => by
    have h2 : y * 2 ^ (n + 1) = 2 * y * 2 ^ n := by rw [Nat.pow_succ]; rw [Nat.mul_comm (2 ^ n) 2, ← Nat.mul_assoc, Nat.mul_comm y 2]
    have hp : 1 ≤ 2 ^ n := Nat.one_le_two_pow
    have hy2 : 2 * y < 65536 := Nat.lt_of_le_of_lt (Nat.le_mul_of_pos_right _ (by omega)) (h2 ▸ hy)
    have e : tN y false = 2 * y := by
      unfold tN
      have hb : y / 32768 = 0 := by omega
      simp only [hb, Nat.zero_mod]
      simp
      omega
    unfold pN
    rw [e, pN_low n (2 * y) (by omega) (by omega), h2]
theorem tN_add (x y : Nat) (hx : x < 65536) (hy : y < 32768) : tN (x ^^^ y) false = tN x false ^^^ (2 * y) := by
  have h := tN_xor x y hx (by omega)
  rw [h, show y / 32768 % 2 = 0 by omega, show 2 * y % 65536 = 2 * y by omega]
  simp
theorem pN_add : ∀ (n x y : Nat), x < 65536 → y * 2 ^ n < 65536 → pN n (x ^^^ y) = pN n x ^^^ (y * 2 ^ n)
  | 0, x, y, _, _ => by simp [pN]
  | n + 1, x, y, hx, hy => by
    have h2 : y * 2 ^ (n + 1) = 2 * y * 2 ^ n := by rw [Nat.pow_succ]; rw [Nat.mul_comm (2 ^ n) 2, ← Nat.mul_assoc, Nat.mul_comm y 2]
    have hp : 1 ≤ 2 ^ n := Nat.one_le_two_pow
    have hy2 : 2 * y < 65536 := Nat.lt_of_le_of_lt (Nat.le_mul_of_pos_right _ (by omega)) (h2 ▸ hy)
    unfold pN
    rw [tN_add x y hx (by omega), pN_add n (tN x false) (2 * y) (tN_lt _ _) (by rw [← h2]; exact hy), h2]
theorem nx_eq (s c : Nat) (hs : s < 65536) (hc : c < 256) : nx s c = pN 8 (s ^^^ (c * 256)) := (pN_nx s c hc hs).symm
/-- two bytes bring the register to zero if and only if they are its own -/
theorem nx_zero (s a b : Nat) (hs : s < 65536) (ha : a < 256) (hb : b < 256) : nx (nx s a) b = 0 ↔ a = s / 256 ∧ b = s % 256 := by
  have hx : ∀ c, c < 256 → c * 256 < 65536 := fun c h => by omega
  -- the register behind the first byte: 256 times the lower byte, and what the upper bytes' difference leaves
  have es : s = (s / 256 * 256) ^^^ (s % 256) := by
    have h1 : 256 * (s / 256) + s % 256 = 256 * (s / 256) ||| s % 256 := @Nat.two_pow_add_eq_or_of_lt 8 (s % 256) (by omega) (s / 256)
    have h2 : (s / 256 * 256) &&& (s % 256) = 0 := by
      apply Nat.eq_of_testBit_eq
      intro i
      rw [Nat.testBit_and, Nat.zero_testBit]
      by_cases hi : i < 8
      · have : (s / 256 * 256).testBit i = false := by
          rw [show s / 256 * 256 = 2 ^ 8 * (s / 256) by omega, Nat.testBit_two_pow_mul]
          simp; omega
        rw [this]; rfl
      · have : (s % 256).testBit i = false := Nat.testBit_lt_two_pow (Nat.lt_of_lt_of_le (by omega : s % 256 < 2 ^ 8) (Nat.pow_le_pow_right (by decide) (by omega)))
        rw [this, Bool.and_false]
    have h3 : s / 256 * 256 + s % 256 = s := by omega
    have h4 : (s / 256 * 256) ^^^ (s % 256) = (s / 256 * 256) ||| (s % 256) := by
      apply Nat.eq_of_testBit_eq
      intro i
      have := congrArg (fun z => z.testBit i) h2
      simp only [Nat.testBit_and, Nat.zero_testBit] at this
      rw [Nat.testBit_xor, Nat.testBit_or]
      cases h5 : (s / 256 * 256).testBit i <;> cases h6 : (s % 256).testBit i <;> simp_all
    rw [h4, Nat.mul_comm (s / 256) 256, ← h1]
    omega
  have hlt : (s / 256 * 256) ^^^ (a * 256) < 65536 := Nat.xor_lt_two_pow (n := 16) (by omega) (by omega)
  have e1 : nx s a = pN 8 ((s / 256 * 256) ^^^ (a * 256)) ^^^ (s % 256 * 256) := by
    rw [nx_eq s a hs ha]
    have : s ^^^ (a * 256) = ((s / 256 * 256) ^^^ (a * 256)) ^^^ (s % 256) := by
      conv => lhs; rw [es]
      ac_rfl
    rw [this, pN_add 8 _ _ hlt (by omega)]
  have hn : nx s a < 65536 := nx_lt _ _ hs
  have e2 : nx (nx s a) b = 0 ↔ nx s a = b * 256 := by
    rw [nx_eq _ b hn hb, pN_zero 8 _ (Nat.xor_lt_two_pow (n := 16) (by omega) (by omega))]
    constructor
    · intro h
      have := congrArg (fun z => z ^^^ (b * 256)) h
      simp only [Nat.xor_assoc, Nat.xor_self, Nat.xor_zero, Nat.zero_xor] at this
      exact this
    · intro h; rw [h, Nat.xor_self]
  rw [e2, e1]
  -- pN 8 of a multiple of 256 is 0 only at 0; and its value is no multiple of 256 otherwise
  have key : ∀ u : Nat, u < 256 → (pN 8 (u * 256) % 256 = 0 ↔ u = 0) := by decide +kernel
  have hxor : (s / 256 * 256) ^^^ (a * 256) = ((s / 256) ^^^ a) * 256 := by
    have := Nat.shiftLeft_xor_distrib (a := s / 256) (b := a) (i := 8)
    simp only [Nat.shiftLeft_eq, Nat.reducePow] at this
    exact this.symm
  have hu : (s / 256) ^^^ a < 256 := Nat.xor_lt_two_pow (n := 8) (by omega) (by omega)
  rw [hxor]
  constructor
  · intro h
    have h1 : (pN 8 (((s / 256) ^^^ a) * 256) ^^^ (s % 256 * 256)) % 256 = 0 := by rw [h]; omega
    rw [show (256 : Nat) = 2 ^ 8 from rfl, Nat.xor_mod_two_pow, show s % 2 ^ 8 * 2 ^ 8 % 2 ^ 8 = 0 by omega, Nat.xor_zero] at h1
    have h2 := (key _ hu).1 h1
    have h3 : s / 256 = a := by
      have := congrArg (fun z => z ^^^ a) h2
      simp only [Nat.xor_assoc, Nat.xor_self, Nat.xor_zero, Nat.zero_xor] at this
      exact this
    rw [h2, Nat.zero_mul, (pN_zero 8 0 (by omega)).2 rfl, Nat.zero_xor] at h
    exact ⟨h3.symm, by omega⟩
  · rintro ⟨rfl, rfl⟩
    rw [Nat.xor_self, Nat.zero_mul, (pN_zero 8 0 (by omega)).2 rfl, Nat.zero_xor]
theorem sum_seal (l : List Int) (a b : Int) (ha : 0 ≤ a ∧ a < 256) (hb : 0 ≤ b ∧ b < 256) : sumS 65535 (l ++ [a, b]) = 0 ↔ [a, b] = tail2 (sumS 65535 l) := by
  have hs := sumS_lt l 65535 (by omega)
  rw [sumS_append]
  show nx (nx (sumS 65535 l) a.toNat) b.toNat = 0 ↔ _
  rw [nx_zero _ _ _ hs (by omega) (by omega)]
  unfold tail2
  simp only [List.cons.injEq, and_true]
  constructor
  · rintro ⟨h1, h2⟩; exact ⟨by omega, by omega⟩
  · rintro ⟨h1, h2⟩; exact ⟨by omega, by omega⟩
end Go.Proofs.Ytmedmifkeliepaa.Bk
