/-
  Plain lemmas on whole numbers as Go's bit operations have them, and on loops with a number of rounds. No program in sight; conditions stand in each lemma.
-/
import Derived.Laws.BitsLemmas
import Derived.IntWalk
import Derived.RowKit
import Derived.Test.YtgiodeiibmbhhaaWMore
set_option linter.unusedVariables false
set_option linter.unusedSimpArgs false
namespace Go.Proofs.Ytgiodeiibmbhhaa.Bk
open Go Go.RowKit Go.Proofs.YtgiodeiibmbhhaaW.PrintWords Go.Proofs.YtgiodeiibmbhhaaW.PrintLast Go.Proofs.YtgiodeiibmbhhaaW.PrintMore
theorem wrap_i64_of (n : Int) (h0 : -9223372036854775808 ≤ n) (h1 : n ≤ 9223372036854775807) : IntKind.i64.wrap n = n := by
  rw [IntKind.wrap_i64]; omega
theorem bits_xor_nat (k : IntKind) (a b : Nat) (ha : a < 2 ^ k.bits) (hb : b < 2 ^ k.bits) : bits .xor k a b = k.wrap ((a ^^^ b : Nat) : Int) := by
  have ha' : a % 2 ^ k.bits = a := Nat.mod_eq_of_lt ha
  have hb' : b % 2 ^ k.bits = b := Nat.mod_eq_of_lt hb
  simp only [bits, BitVec.ofInt_natCast, BitVec.toNat_xor, BitVec.toNat_ofNat, ha', hb']
theorem bits_and_nat (k : IntKind) (a b : Nat) (ha : a < 2 ^ k.bits) (hb : b < 2 ^ k.bits) : bits .and k a b = k.wrap ((a &&& b : Nat) : Int) := by
  have ha' : a % 2 ^ k.bits = a := Nat.mod_eq_of_lt ha
  have hb' : b % 2 ^ k.bits = b := Nat.mod_eq_of_lt hb
  simp only [bits, BitVec.ofInt_natCast, BitVec.toNat_and, BitVec.toNat_ofNat, ha', hb']
theorem bits_or_nat (k : IntKind) (a b : Nat) (ha : a < 2 ^ k.bits) (hb : b < 2 ^ k.bits) : bits .or k a b = k.wrap ((a ||| b : Nat) : Int) := by
  have ha' : a % 2 ^ k.bits = a := Nat.mod_eq_of_lt ha
  have hb' : b % 2 ^ k.bits = b := Nat.mod_eq_of_lt hb
  simp only [bits, BitVec.ofInt_natCast, BitVec.toNat_or, BitVec.toNat_ofNat, ha', hb']
theorem xor64 (a b : Nat) (ha : a < 9223372036854775808) (hb : b < 9223372036854775808) : bits .xor .i64 (a : Int) (b : Int) = ((a ^^^ b : Nat) : Int) := by
  have hx : a ^^^ b < 2 ^ 63 := Nat.xor_lt_two_pow (by omega) (by omega)
  rw [bits_xor_nat .i64 a b (by simp only [IntKind.bits]; omega) (by simp only [IntKind.bits]; omega)]
  exact wrap_i64_of _ (by omega) (by omega)
theorem and64 (a b : Nat) (ha : a < 9223372036854775808) (hb : b < 9223372036854775808) : bits .and .i64 (a : Int) (b : Int) = ((a &&& b : Nat) : Int) := by
  have hx : a &&& b < 2 ^ 63 := Nat.and_lt_two_pow _ (by omega)
  rw [bits_and_nat .i64 a b (by simp only [IntKind.bits]; omega) (by simp only [IntKind.bits]; omega)]
  exact wrap_i64_of _ (by omega) (by omega)
theorem or64 (a b : Nat) (ha : a < 9223372036854775808) (hb : b < 9223372036854775808) : bits .or .i64 (a : Int) (b : Int) = ((a ||| b : Nat) : Int) := by
  have hx : a ||| b < 2 ^ 63 := Nat.or_lt_two_pow (by omega) (by omega)
  rw [bits_or_nat .i64 a b (by simp only [IntKind.bits]; omega) (by simp only [IntKind.bits]; omega)]
  exact wrap_i64_of _ (by omega) (by omega)
theorem wrap_u8 (n : Int) : IntKind.u8.wrap n = n % 256 := IntKind.wrap_u8 n
theorem xor8 (a b : Nat) (ha : a < 256) (hb : b < 256) : bits .xor .u8 (a : Int) (b : Int) = ((a ^^^ b : Nat) : Int) := by
  have hx : a ^^^ b < 2 ^ 8 := Nat.xor_lt_two_pow (by omega) (by omega)
  rw [bits_xor_nat .u8 a b (by simp only [IntKind.bits]; omega) (by simp only [IntKind.bits]; omega), IntKind.wrap_u8]
  omega
theorem and8 (a b : Nat) (ha : a < 256) (hb : b < 256) : bits .and .u8 (a : Int) (b : Int) = ((a &&& b : Nat) : Int) := by
  have hx : a &&& b < 2 ^ 8 := Nat.and_lt_two_pow _ (by omega)
  rw [bits_and_nat .u8 a b (by simp only [IntKind.bits]; omega) (by simp only [IntKind.bits]; omega), IntKind.wrap_u8]
  omega
theorem or8 (a b : Nat) (ha : a < 256) (hb : b < 256) : bits .or .u8 (a : Int) (b : Int) = ((a ||| b : Nat) : Int) := by
  have hx : a ||| b < 2 ^ 8 := Nat.or_lt_two_pow (by omega) (by omega)
  rw [bits_or_nat .u8 a b (by simp only [IntKind.bits]; omega) (by simp only [IntKind.bits]; omega), IntKind.wrap_u8]
  omega
/-- x & (2^i - 1), whatever the sign of x. -/
theorem mask64 (x : Int) (i : Nat) (hi : i ≤ 62) (m : Int) (hm : m = 2 ^ i - 1) : bits .and .i64 x m = x % 2 ^ i := by
  subst hm
  have h2 : (2 : Nat) ^ i ≤ 2 ^ 62 := Nat.pow_le_pow_right (by decide) hi
  have h1 : 1 ≤ (2 : Nat) ^ i := Nat.one_le_two_pow
  have e : ((2 : Int) ^ i - 1) = (((2 ^ i - 1 : Nat)) : Int) := by rw [Int.natCast_sub h1]; simp
  have hx : BitVec.ofInt IntKind.i64.bits x = BitVec.ofNat IntKind.i64.bits (x % 2 ^ 64).toNat := by
    apply BitVec.eq_of_toNat_eq
    rw [BitVec.toNat_ofInt, BitVec.toNat_ofNat]
    simp only [IntKind.bits]
    omega
  have hb : bits .and .i64 x ((2 : Int) ^ i - 1) = bits .and .i64 (((x % 2 ^ 64).toNat : Nat) : Int) (((2 ^ i - 1 : Nat)) : Int) := by
    rw [e]; simp only [bits, hx, BitVec.ofInt_natCast]
  rw [hb, bits_and_nat .i64 _ _ (by simp only [IntKind.bits]; omega) (by simp only [IntKind.bits]; omega), Nat.and_two_pow_sub_one_eq_mod]
  have hd : ((2 : Int) ^ i) ∣ 2 ^ 64 := ⟨2 ^ (64 - i), by rw [← Int.pow_add]; congr 1; omega⟩
  have hlt : (x % 2 ^ 64).toNat % 2 ^ i < 2 ^ i := Nat.mod_lt _ (by omega)
  rw [wrap_i64_of _ (by omega) (by omega)]
  rw [Int.natCast_emod, Int.toNat_of_nonneg (Int.emod_nonneg _ (by decide))]
  simp only [Int.natCast_pow]
  exact Int.emod_emod_of_dvd x hd
theorem w64 (n : Int) (h0 : -9223372036854775808 ≤ n) (h1 : n ≤ 9223372036854775807) : wrap64 n = n := by unfold wrap64; omega
theorem rd_mid (pre suf : List Int) (x : Int) (i : Int) (hi : i = pre.length) : rd (pre ++ x :: suf) i = x := by
  subst hi; simp [rd]
theorem len_mid {α : Type} (pre suf : List α) (x : α) : ((pre.length : Nat) : Int) < ((pre ++ x :: suf).length : Nat) := by
  simp only [List.length_append, List.length_cons]; omega
theorem snoc_mid {α : Type} (pre suf : List α) (x : α) : pre ++ x :: suf = (pre ++ [x]) ++ suf := by simp
theorem u8_of {l : List Int} (h : ∀ x ∈ l, (Lit.int .u8 x).wf = true) : ∀ x ∈ l, 0 ≤ x ∧ x < 256 := by
  intro x hx
  have := h x hx
  simp [Lit.wf, IntKind.min, IntKind.max, IntKind.signed, IntKind.bits] at this
  omega
theorem u8_one {x : Int} (h : (Lit.int .u8 x).wf = true) : 0 ≤ x ∧ x < 256 := by
  simp [Lit.wf, IntKind.min, IntKind.max, IntKind.signed, IntKind.bits] at h
  omega
theorem i64_one {x : Int} (h : (Lit.int .i64 x).wf = true) : -9223372036854775808 ≤ x ∧ x ≤ 9223372036854775807 := by
  simp [Lit.wf, IntKind.min, IntKind.max, IntKind.signed, IntKind.bits] at h
  omega
theorem i64_of {l : List Int} (h : ∀ x ∈ l, (Lit.int .i64 x).wf = true) : ∀ x ∈ l, -9223372036854775808 ≤ x ∧ x ≤ 9223372036854775807 := fun x hx => i64_one (h x hx)
end Go.Proofs.Ytgiodeiibmbhhaa.Bk
