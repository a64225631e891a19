/-
  Plain arithmetic of the sum of chapter 21: what the program's round and the reference's round do to the register, and that they come to the same. Conditions stand in each lemma.
-/
import Derived.Test.YtmedmifkeliepaaZBits
set_option linter.unusedVariables false
set_option linter.unusedSimpArgs false
namespace Go.Proofs.Ytmedmifkeliepaa.Bk
open Go Go.RowKit Go.Proofs.YtmedmifkeliepaaW.PrintWords Go.Proofs.YtmedmifkeliepaaW.PrintLast Go.Proofs.YtmedmifkeliepaaW.PrintMore
/-- one bit of the register -/
def tN (x : Nat) (b : Bool) : Nat := if (decide (x / 32768 % 2 = 1)) != b then (2 * x % 65536) ^^^ 4129 else 2 * x % 65536
theorem tN_lt (x : Nat) (b : Bool) : tN x b < 65536 := by
  unfold tN; split
  · exact Nat.xor_lt_two_pow (n := 16) (by omega) (by omega)
  · omega
theorem tN_xor (x d : Nat) (hx : x < 65536) (hd : d < 65536) : tN (x ^^^ d) false = tN x (decide (d / 32768 % 2 = 1)) ^^^ (2 * d % 65536) := by
  have h1 : (x ^^^ d) / 32768 = x / 32768 ^^^ d / 32768 := Nat.xor_div_two_pow (n := 15)
  have h2 : 2 * (x ^^^ d) % 65536 = (2 * x % 65536) ^^^ (2 * d % 65536) := by
    have e : 2 * (x ^^^ d) = (2 * x) ^^^ (2 * d) := by
      have := Nat.shiftLeft_xor_distrib (a := x) (b := d) (i := 1)
      simp only [Nat.shiftLeft_eq, Nat.pow_one] at this
      rw [Nat.mul_comm 2, this, Nat.mul_comm x, Nat.mul_comm d]
    rw [e]; exact Nat.xor_mod_two_pow (n := 16)
  have a : x / 32768 = 0 ∨ x / 32768 = 1 := by omega
  have b : d / 32768 = 0 ∨ d / 32768 = 1 := by omega
  unfold tN
  rw [h1, h2]
  rcases a with a | a <;> rcases b with b | b <;> rw [a, b] <;> simp <;> try ac_rfl
def pN : Nat → Nat → Nat
  | 0, x => x
  | n + 1, x => pN n (tN x false)
def rN (c : Nat) : Nat → Nat → Nat
  | 0, x => x
  | n + 1, x => rN c n (tN x (decide (c / 2 ^ n % 2 = 1)))
theorem pN_lt : ∀ (n x : Nat), x < 65536 → pN n x < 65536
  | 0, x, h => h
  | n + 1, x, h => pN_lt n _ (tN_lt _ _)
theorem rN_lt (c : Nat) : ∀ (n x : Nat), x < 65536 → rN c n x < 65536
  | 0, x, h => h
  | n + 1, x, h => rN_lt c n _ (tN_lt _ _)
theorem top_bit (c n : Nat) (hc : c < 256) (hn : n ≤ 7) : (c * 2 ^ (15 - n) % 65536) / 32768 % 2 = c / 2 ^ n % 2 ∧ 2 * (c * 2 ^ (15 - n) % 65536) % 65536 = c * 2 ^ (16 - n) % 65536 := by
  obtain rfl | rfl | rfl | rfl | rfl | rfl | rfl | rfl : n = 0 ∨ n = 1 ∨ n = 2 ∨ n = 3 ∨ n = 4 ∨ n = 5 ∨ n = 6 ∨ n = 7 := by omega
  all_goals (simp only [Nat.reduceSub, Nat.reducePow]; omega)
theorem pN_rN (c : Nat) (hc : c < 256) : ∀ (n x : Nat), n ≤ 8 → x < 65536 → pN n (x ^^^ (c * 2 ^ (16 - n) % 65536)) = rN c n x
  | 0, x, _, hx => by simp [pN, rN]
  | n + 1, x, hn, hx => by
    have hd : c * 2 ^ (15 - n) % 65536 < 65536 := Nat.mod_lt _ (by decide)
    have e : 16 - (n + 1) = 15 - n := by omega
    have t := top_bit c n hc (by omega)
    unfold pN rN
    rw [e, tN_xor x _ hx hd, t.1, t.2]
    exact pN_rN c hc n _ (by omega) (tN_lt _ _)
/-- what a byte does to the sum -/
def nx (s c : Nat) : Nat := rN c 8 s
theorem nx_lt (s c : Nat) (h : s < 65536) : nx s c < 65536 := rN_lt c 8 s h
theorem pN_nx (s c : Nat) (hc : c < 256) (hs : s < 65536) : pN 8 (s ^^^ (c * 256)) = nx s c := by
  have := pN_rN c hc 8 s (by omega) hs
  simp only [Nat.reduceSub, Nat.reducePow] at this
  rw [show c * 256 % 65536 = c * 256 by omega] at this
  exact this
/-- the program's round, as Go has it -/
theorem round_p (x : Nat) (hx : x < 65536) : (if wrap64 ((x : Int) * 2) > 65535 then bits .xor .i64 (wrap64 ((x : Int) * 2)) 69665 else wrap64 ((x : Int) * 2)) = ((tN x false : Nat) : Int) := by
  have w : wrap64 ((x : Int) * 2) = ((2 * x : Nat) : Int) := by rw [w64 _ (by omega) (by omega)]; omega
  rw [w]
  unfold tN
  by_cases h : 32768 ≤ x
  · rw [if_pos (by omega), show (69665 : Int) = ((69665 : Nat) : Int) from rfl, xor64 _ _ (by omega) (by omega)]
    have e : x / 32768 = 1 := by omega
    rw [e]
    simp only [Nat.one_mod, decide_true, Bool.true_bne, Bool.not_false, if_true]
    congr 1
    have d : (2 * x ^^^ 69665) / 65536 = 0 := by
      rw [show (65536 : Nat) = 2 ^ 16 from rfl, Nat.xor_div_two_pow, show 2 * x / 2 ^ 16 = 1 by omega]; rfl
    have m : (2 * x ^^^ 69665) % 65536 = (2 * x % 65536) ^^^ 4129 := by
      rw [show (65536 : Nat) = 2 ^ 16 from rfl, Nat.xor_mod_two_pow]
    omega
  · rw [if_neg (by omega)]
    have e : x / 32768 = 0 := by omega
    rw [e]
    simp only [Nat.zero_mod, bne_self_eq_false, Bool.false_eq_true, if_false]
    simp
    omega
/-- the reference's round, as Go has it -/
theorem round_r (x c n : Nat) (hx : x < 65536) (hc : c < 256) (hn : n ≤ 7) :
    (if bits .and .i64 ((x : Int) / 32768) 1 = bits .and .i64 (wrap64 (shr .u8 (c : Int) (n : Int))) 1 then bits .and .i64 (wrap64 ((x : Int) * 2)) 65535 else bits .xor .i64 (bits .and .i64 (wrap64 ((x : Int) * 2)) 65535) 4129) = ((tN x (decide (c / 2 ^ n % 2 = 1)) : Nat) : Int) := by
  have w : wrap64 ((x : Int) * 2) = ((2 * x : Nat) : Int) := by rw [w64 _ (by omega) (by omega)]; omega
  have s : shr .u8 (c : Int) (n : Int) = ((c / 2 ^ n : Nat) : Int) := by
    unfold shr; rw [Int.toNat_natCast, Nat.min_eq_left (by simp only [IntKind.bits]; omega)]; simp
  have hq : c / 2 ^ n < 256 := Nat.lt_of_le_of_lt (Nat.div_le_self _ _) hc
  rw [w, s]
  generalize c / 2 ^ n = q at *
  rw [w64 _ (by omega) (by omega), mask64 _ 16 (by decide) 65535 (by decide), mask64 _ 1 (by decide) 1 (by decide), mask64 _ 1 (by decide) 1 (by decide)]
  have e : ((2 * x : Nat) : Int) % 2 ^ 16 = ((2 * x % 65536 : Nat) : Int) := by simp
  rw [e, show (4129 : Int) = ((4129 : Nat) : Int) from rfl, xor64 _ _ (by omega) (by omega)]
  unfold tN
  by_cases h1 : x / 32768 % 2 = 1 <;> by_cases h2 : q % 2 = 1
  · rw [if_pos (by omega)]; simp [h1, h2]
  · rw [if_neg (by omega)]; simp [h1, h2]
  · rw [if_neg (by omega)]; simp [h1, h2]
  · rw [if_pos (by omega)]; simp [h1, h2]
end Go.Proofs.Ytmedmifkeliepaa.Bk
