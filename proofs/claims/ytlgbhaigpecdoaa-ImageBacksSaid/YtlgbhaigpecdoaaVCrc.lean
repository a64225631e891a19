/- The sum of chapter 21: what both rounds do to the register; a row behind which its sum stands. No program in sight. -/
import Derived.Test.YtlgbhaigpecdoaaVKit3
set_option linter.unusedVariables false
set_option linter.unusedSimpArgs false
namespace Go.Proofs.Ytlgbhaigpecdoaa.V
open Go
def tN (x : Nat) (b : Bool) : Nat := if (decide (x / 32768 % 2 = 1)) != b then (2 * x % 65536) ^^^ 4129 else 2 * x % 65536
theorem tN_lt (x : Nat) (b : Bool) : tN x b < 65536 := by
  unfold tN; split
  · exact Nat.xor_lt_two_pow (n := 16) (by omega) (by omega)
  · omega
theorem tN_xor (x d : Nat) (hx : x < 65536) (hd : d < 65536) : tN (x ^^^ d) false = tN x (decide (d / 32768 % 2 = 1)) ^^^ (2 * d % 65536) := by
  have h1 : (x ^^^ d) / 32768 = x / 32768 ^^^ d / 32768 := Nat.xor_div_two_pow (n := 15)
  have h2 : 2 * (x ^^^ d) % 65536 = (2 * x % 65536) ^^^ (2 * d % 65536) := by
    have e : 2 * (x ^^^ d) = (2 * x) ^^^ (2 * d) := by
      have := Nat.shiftLeft_xor_distrib (a := x) (b := d) (i := 1)
      simp only [Nat.shiftLeft_eq, Nat.pow_one] at this
      rw [Nat.mul_comm 2, this, Nat.mul_comm x, Nat.mul_comm d]
    rw [e]; exact Nat.xor_mod_two_pow (n := 16)
  have a : x / 32768 = 0 ∨ x / 32768 = 1 := by omega
  have b : d / 32768 = 0 ∨ d / 32768 = 1 := by omega
  unfold tN
  rw [h1, h2]
  rcases a with a | a <;> rcases b with b | b <;> rw [a, b] <;> simp <;> try ac_rfl
def pN : Nat → Nat → Nat
  | 0, x => x
  | n + 1, x => pN n (tN x false)
def rN (c : Nat) : Nat → Nat → Nat
  | 0, x => x
  | n + 1, x => rN c n (tN x (decide (c / 2 ^ n % 2 = 1)))
theorem pN_lt : ∀ (n x : Nat), x < 65536 → pN n x < 65536
  | 0, x, h => h
  | n + 1, x, h => pN_lt n _ (tN_lt _ _)
theorem rN_lt (c : Nat) : ∀ (n x : Nat), x < 65536 → rN c n x < 65536
  | 0, x, h => h
  | n + 1, x, h => rN_lt c n _ (tN_lt _ _)
theorem top_bit (c n : Nat) (hc : c < 256) (hn : n ≤ 7) : (c * 2 ^ (15 - n) % 65536) / 32768 % 2 = c / 2 ^ n % 2 ∧ 2 * (c * 2 ^ (15 - n) % 65536) % 65536 = c * 2 ^ (16 - n) % 65536 := by
  obtain rfl | rfl | rfl | rfl | rfl | rfl | rfl | rfl : n = 0 ∨ n = 1 ∨ n = 2 ∨ n = 3 ∨ n = 4 ∨ n = 5 ∨ n = 6 ∨ n = 7 := by omega
  all_goals (simp only [Nat.reduceSub, Nat.reducePow]; omega)
theorem pN_rN (c : Nat) (hc : c < 256) : ∀ (n x : Nat), n ≤ 8 → x < 65536 → pN n (x ^^^ (c * 2 ^ (16 - n) % 65536)) = rN c n x
  | 0, x, _, hx => by simp [pN, rN]
  | n + 1, x, hn, hx => by
    have hd : c * 2 ^ (15 - n) % 65536 < 65536 := Nat.mod_lt _ (by decide)
    have e : 16 - (n + 1) = 15 - n := by omega
    have t := top_bit c n hc (by omega)
    unfold pN rN
    rw [e, tN_xor x _ hx hd, t.1, t.2]
    exact pN_rN c hc n _ (by omega) (tN_lt _ _)
def nx (s c : Nat) : Nat := rN c 8 s
theorem nx_lt (s c : Nat) (h : s < 65536) : nx s c < 65536 := rN_lt c 8 s h
theorem pN_nx (s c : Nat) (hc : c < 256) (hs : s < 65536) : pN 8 (s ^^^ (c * 256)) = nx s c := by
  have := pN_rN c hc 8 s (by omega) hs
  simp only [Nat.reduceSub, Nat.reducePow] at this
  rw [show c * 256 % 65536 = c * 256 by omega] at this
  exact this
def sumS (s : Nat) (l : List Int) : Nat := l.foldl (fun s c => nx s c.toNat) s
theorem sumS_lt : ∀ (l : List Int) (s : Nat), s < 65536 → sumS s l < 65536
  | [], s, h => h
  | c :: l, s, h => sumS_lt l _ (nx_lt _ _ h)
theorem sumS_append (s : Nat) (a b : List Int) : sumS s (a ++ b) = sumS (sumS s a) b := by unfold sumS; rw [List.foldl_append]
def tail2 (n : Nat) : List Int := [((n / 256 : Nat) : Int), ((n % 256 : Nat) : Int)]
theorem tN_zero (x : Nat) (hx : x < 65536) : tN x false = 0 ↔ x = 0 := by
  have h : ∀ y : Nat, y < 32768 → (2 * y % 65536) ^^^ 4129 ≠ 0 := by
    intro y hy he
    have := congrArg (fun z : Nat => z % 2) he
    replace this : ((2 * y % 65536) ^^^ 4129) % 2 = 0 := this
    have e2 : ((2 * y % 65536) ^^^ 4129) % 2 = 1 := by
      have := @Nat.xor_mod_two_pow (2 * y % 65536) 4129 1
      simp only [Nat.pow_one] at this
      rw [this, show 2 * y % 65536 % 2 = 0 by omega]
      decide
    rw [e2] at this
    exact absurd this (by decide)
  unfold tN
  by_cases hb : x / 32768 % 2 = 1
  · simp only [hb, decide_true, Bool.true_bne, Bool.not_false, if_true]
    have e : 2 * x % 65536 = 2 * (x - 32768) % 65536 := by omega
    rw [e]
    constructor
    · intro h2; exact absurd h2 (h (x - 32768) (by omega))
    · intro h2; omega
  · have hb' : x / 32768 = 0 := by omega
    simp only [hb', Nat.zero_mod]
    simp
    omega
theorem pN_zero : ∀ (n x : Nat), x < 65536 → (pN n x = 0 ↔ x = 0)
  | 0, x, _ => Iff.rfl
  | n + 1, x, hx => by unfold pN; rw [pN_zero n _ (tN_lt _ _)]; exact tN_zero x hx
theorem tN_add (x y : Nat) (hx : x < 65536) (hy : y < 32768) : tN (x ^^^ y) false = tN x false ^^^ (2 * y) := by
  have h := tN_xor x y hx (by omega)
  rw [h, show y / 32768 % 2 = 0 by omega, show 2 * y % 65536 = 2 * y by omega]
  simp
theorem pN_add : ∀ (n x y : Nat), x < 65536 → y * 2 ^ n < 65536 → pN n (x ^^^ y) = pN n x ^^^ (y * 2 ^ n)
  | 0, x, y, _, _ => by simp [pN]
  | n + 1, x, y, hx, hy => by
    have h2 : y * 2 ^ (n + 1) = 2 * y * 2 ^ n := by rw [Nat.pow_succ]; rw [Nat.mul_comm (2 ^ n) 2, ← Nat.mul_assoc, Nat.mul_comm y 2]
    have hp : 1 ≤ 2 ^ n := Nat.one_le_two_pow
    have hy2 : 2 * y < 65536 := Nat.lt_of_le_of_lt (Nat.le_mul_of_pos_right _ (by omega)) (h2 ▸ hy)
    unfold pN
    rw [tN_add x y hx (by omega), pN_add n (tN x false) (2 * y) (tN_lt _ _) (by rw [← h2]; exact hy), h2]
theorem nx_eq (s c : Nat) (hs : s < 65536) (hc : c < 256) : nx s c = pN 8 (s ^^^ (c * 256)) := (pN_nx s c hc hs).symm
theorem nx_zero (s a b : Nat) (hs : s < 65536) (ha : a < 256) (hb : b < 256) : nx (nx s a) b = 0 ↔ a = s / 256 ∧ b = s % 256 := by
  have hx : ∀ c, c < 256 → c * 256 < 65536 := fun c h => by omega
  -- the register behind the first byte: 256 times the lower byte, and what the upper bytes' difference leaves
  have es : s = (s / 256 * 256) ^^^ (s % 256) := by
    have h1 : 256 * (s / 256) + s % 256 = 256 * (s / 256) ||| s % 256 := @Nat.two_pow_add_eq_or_of_lt 8 (s % 256) (by omega) (s / 256)
    have h2 : (s / 256 * 256) &&& (s % 256) = 0 := by
      apply Nat.eq_of_testBit_eq
      intro i
      rw [Nat.testBit_and, Nat.zero_testBit]
      by_cases hi : i < 8
      · have : (s / 256 * 256).testBit i = false := by
          rw [show s / 256 * 256 = 2 ^ 8 * (s / 256) by omega, Nat.testBit_two_pow_mul]
          simp; omega
        rw [this]; rfl
      · have : (s % 256).testBit i = false := Nat.testBit_lt_two_pow (Nat.lt_of_lt_of_le (by omega : s % 256 < 2 ^ 8) (Nat.pow_le_pow_right (by decide) (by omega)))
        rw [this, Bool.and_false]
    have h3 : s / 256 * 256 + s % 256 = s := by omega
    have h4 : (s / 256 * 256) ^^^ (s % 256) = (s / 256 * 256) ||| (s % 256) := by
      apply Nat.eq_of_testBit_eq
      intro i
      have := congrArg (fun z => z.testBit i) h2
      simp only [Nat.testBit_and, Nat.zero_testBit] at this
      rw [Nat.testBit_xor, Nat.testBit_or]
      cases h5 : (s / 256 * 256).testBit i <;> cases h6 : (s % 256).testBit i <;> simp_all
    rw [h4, Nat.mul_comm (s / 256) 256, ← h1]
    omega
  have hlt : (s / 256 * 256) ^^^ (a * 256) < 65536 := Nat.xor_lt_two_pow (n := 16) (by omega) (by omega)
  have e1 : nx s a = pN 8 ((s / 256 * 256) ^^^ (a * 256)) ^^^ (s % 256 * 256) := by
    rw [nx_eq s a hs ha]
    have : s ^^^ (a * 256) = ((s / 256 * 256) ^^^ (a * 256)) ^^^ (s % 256) := by
      conv => lhs; rw [es]
      ac_rfl
    rw [this, pN_add 8 _ _ hlt (by omega)]
  have hn : nx s a < 65536 := nx_lt _ _ hs
  have e2 : nx (nx s a) b = 0 ↔ nx s a = b * 256 := by
    rw [nx_eq _ b hn hb, pN_zero 8 _ (Nat.xor_lt_two_pow (n := 16) (by omega) (by omega))]
    constructor
    · intro h
      have := congrArg (fun z => z ^^^ (b * 256)) h
      simp only [Nat.xor_assoc, Nat.xor_self, Nat.xor_zero, Nat.zero_xor] at this
      exact this
    · intro h; rw [h, Nat.xor_self]
  rw [e2, e1]
  -- pN 8 of a multiple of 256 is 0 only at 0; and its value is no multiple of 256 otherwise
  have key : ∀ u : Nat, u < 256 → (pN 8 (u * 256) % 256 = 0 ↔ u = 0) := by decide +kernel
  have hxor : (s / 256 * 256) ^^^ (a * 256) = ((s / 256) ^^^ a) * 256 := by
    have := Nat.shiftLeft_xor_distrib (a := s / 256) (b := a) (i := 8)
    simp only [Nat.shiftLeft_eq, Nat.reducePow] at this
    exact this.symm
  have hu : (s / 256) ^^^ a < 256 := Nat.xor_lt_two_pow (n := 8) (by omega) (by omega)
  rw [hxor]
  constructor
  · intro h
    have h1 : (pN 8 (((s / 256) ^^^ a) * 256) ^^^ (s % 256 * 256)) % 256 = 0 := by rw [h]; omega
    rw [show (256 : Nat) = 2 ^ 8 from rfl, Nat.xor_mod_two_pow, show s % 2 ^ 8 * 2 ^ 8 % 2 ^ 8 = 0 by omega, Nat.xor_zero] at h1
    have h2 := (key _ hu).1 h1
    have h3 : s / 256 = a := by
      have := congrArg (fun z => z ^^^ a) h2
      simp only [Nat.xor_assoc, Nat.xor_self, Nat.xor_zero, Nat.zero_xor] at this
      exact this
    rw [h2, Nat.zero_mul, (pN_zero 8 0 (by omega)).2 rfl, Nat.zero_xor] at h
    exact ⟨h3.symm, by omega⟩
  · rintro ⟨rfl, rfl⟩
    rw [Nat.xor_self, Nat.zero_mul, (pN_zero 8 0 (by omega)).2 rfl, Nat.zero_xor]
theorem sum_seal (l : List Int) (a b : Int) (ha : 0 ≤ a ∧ a < 256) (hb : 0 ≤ b ∧ b < 256) : sumS 65535 (l ++ [a, b]) = 0 ↔ [a, b] = tail2 (sumS 65535 l) := by
  have hs := sumS_lt l 65535 (by omega)
  rw [sumS_append]
  show nx (nx (sumS 65535 l) a.toNat) b.toNat = 0 ↔ _
  rw [nx_zero _ _ _ hs (by omega) (by omega)]
  unfold tail2
  simp only [List.cons.injEq, and_true]
  constructor
  · rintro ⟨h1, h2⟩; exact ⟨by omega, by omega⟩
  · rintro ⟨h1, h2⟩; exact ⟨by omega, by omega⟩
theorem mask64 (x : Int) (i : Nat) (hi : i ≤ 62) (m : Int) (hm : m = 2 ^ i - 1) : bitop .i64 .and x m = x % 2 ^ i := by
  subst hm
  have h2 : (2 : Nat) ^ i ≤ 2 ^ 62 := Nat.pow_le_pow_right (by decide) hi
  have h1 : 1 ≤ (2 : Nat) ^ i := Nat.one_le_two_pow
  have e : ((2 : Int) ^ i - 1) = (((2 ^ i - 1 : Nat)) : Int) := by rw [Int.natCast_sub h1]; simp
  have hx : BitVec.ofInt IntKind.i64.bits x = BitVec.ofNat IntKind.i64.bits (x % 2 ^ 64).toNat := by
    apply BitVec.eq_of_toNat_eq
    rw [BitVec.toNat_ofInt, BitVec.toNat_ofNat]
    simp only [IntKind.bits]
    omega
  have hb : bitop .i64 .and x ((2 : Int) ^ i - 1) = bitop .i64 .and (((x % 2 ^ 64).toNat : Nat) : Int) (((2 ^ i - 1 : Nat)) : Int) := by
    rw [e]; simp only [bitop, hx, BitVec.ofInt_natCast]
  rw [hb, bitop_and .i64 _ _ (by simp only [IntKind.bits]; omega) (by simp only [IntKind.bits]; omega), Nat.and_two_pow_sub_one_eq_mod]
  have hd : ((2 : Int) ^ i) ∣ 2 ^ 64 := ⟨2 ^ (64 - i), by rw [← Int.pow_add]; congr 1; omega⟩
  have hlt : (x % 2 ^ 64).toNat % 2 ^ i < 2 ^ i := Nat.mod_lt _ (by omega)
  rw [wi (by omega) (by omega)]
  rw [Int.natCast_emod, Int.toNat_of_nonneg (Int.emod_nonneg _ (by decide))]
  simp only [Int.natCast_pow]
  exact Int.emod_emod_of_dvd x hd
end Go.Proofs.Ytlgbhaigpecdoaa.V
