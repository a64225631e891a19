/-
  Plain models for CrcSeals, second part: the bits of a row, and the span in which two rows of bits differ, told in two ways. No program in sight.
-/
import Derived.Test.YtmedmifkeliepaaZSeal
set_option linter.unusedVariables false
set_option linter.unusedSimpArgs false
namespace Go.Proofs.Ytmedmifkeliepaa.Bk
open Go Go.RowKit Go.Proofs.YtmedmifkeliepaaW.PrintWords Go.Proofs.YtmedmifkeliepaaW.PrintLast Go.Proofs.YtmedmifkeliepaaW.PrintMore
def bt7 (c : Int) (k : Nat) : Bool := decide (c.toNat / 2 ^ (7 - k) % 2 = 1)
def bits8 (c : Int) : List Bool := [bt7 c 0, bt7 c 1, bt7 c 2, bt7 c 3, bt7 c 4, bt7 c 5, bt7 c 6, bt7 c 7]
def bitsL (l : List Int) : List Bool := l.flatMap bits8
theorem bitsL_length (l : List Int) : (bitsL l).length = 8 * l.length := by
  induction l with
  | nil => rfl
  | cons c l ih =>
    have : bitsL (c :: l) = bits8 c ++ bitsL l := by simp [bitsL]
    rw [this, List.length_append, ih, List.length_cons]
    simp [bits8]; omega
theorem bits8_get (c : Int) (k : Nat) (hk : k < 8) : (bits8 c).getD k false = bt7 c k := by
  obtain rfl | rfl | rfl | rfl | rfl | rfl | rfl | rfl : k = 0 ∨ k = 1 ∨ k = 2 ∨ k = 3 ∨ k = 4 ∨ k = 5 ∨ k = 6 ∨ k = 7 := by omega
  all_goals rfl
theorem bitsL_get : ∀ (l : List Int) (i : Nat), i < 8 * l.length → (bitsL l).getD i false = bt7 (l.getD (i / 8) 0) (i % 8)
  | [], i, h => by simp at h
  | c :: l, i, h => by
    have e : bitsL (c :: l) = bits8 c ++ bitsL l := by simp [bitsL]
    have h8 : (bits8 c).length = 8 := rfl
    rw [e]
    by_cases hi : i < 8
    · rw [List.getD_eq_getElem?_getD, List.getElem?_append_left (by omega), ← List.getD_eq_getElem?_getD, bits8_get c i hi]
      rw [show i / 8 = 0 by omega, show i % 8 = i by omega]
      rfl
    · rw [List.getD_eq_getElem?_getD, List.getElem?_append_right (by omega), ← List.getD_eq_getElem?_getD, h8, bitsL_get l (i - 8) (by simp only [List.length_cons] at h; omega)]
      rw [show (i - 8) % 8 = i % 8 by omega, show i / 8 = (i - 8) / 8 + 1 by omega]
      rfl
/-- a byte's bit, as the reference takes it -/
theorem bit_ref (c : Int) (k : Nat) (hc : 0 ≤ c ∧ c < 256) (hk : k < 8) : decide (shl .u8 c (k : Int) ≥ 128) = bt7 c k := by
  unfold shl bt7
  rw [Int.toNat_natCast, Nat.min_eq_left (by simp only [IntKind.bits]; omega), IntKind.wrap_u8]
  congr 1
  apply propext
  obtain ⟨n, rfl⟩ := Int.eq_ofNat_of_zero_le hc.1
  simp only [Int.toNat_natCast]
  obtain rfl | rfl | rfl | rfl | rfl | rfl | rfl | rfl : k = 0 ∨ k = 1 ∨ k = 2 ∨ k = 3 ∨ k = 4 ∨ k = 5 ∨ k = 6 ∨ k = 7 := by omega
  all_goals (simp only [Nat.reduceSub, Nat.reducePow, Int.reducePow]; omega)
/-- where two bytes differ, as the program takes it -/
theorem bit_xor (a b : Int) (k : Nat) (ha : 0 ≤ a ∧ a < 256) (hb : 0 ≤ b ∧ b < 256) (hk : k < 8) : (bits .and .u8 (shr .u8 (bits .xor .u8 a b) (((7 - k : Nat) : Nat) : Int)) 1 = 1) ↔ (bt7 a k != bt7 b k) = true := by
  obtain ⟨m, rfl⟩ := Int.eq_ofNat_of_zero_le ha.1
  obtain ⟨n, rfl⟩ := Int.eq_ofNat_of_zero_le hb.1
  have hlt : m ^^^ n < 256 := Nat.xor_lt_two_pow (n := 8) (by omega) (by omega)
  rw [xor8 m n (by omega) (by omega)]
  have e : shr .u8 ((m ^^^ n : Nat) : Int) ((7 - k : Nat) : Int) = (((m ^^^ n) / 2 ^ (7 - k) : Nat) : Int) := by
    unfold shr; rw [Int.toNat_natCast, Nat.min_eq_left (by simp only [IntKind.bits]; omega)]; simp
  have hq : (m ^^^ n) / 2 ^ (7 - k) < 256 := Nat.lt_of_le_of_lt (Nat.div_le_self _ _) hlt
  rw [e, show (1 : Int) = ((1 : Nat) : Int) from rfl, and8 _ _ hq (by omega), Nat.and_one_is_mod]
  have ht := Nat.testBit_xor (x := m) (y := n) (i := 7 - k)
  simp only [Nat.testBit_eq_decide_div_mod_eq] at ht
  unfold bt7
  simp only [Int.toNat_natCast]
  have hb1 := congrArg (fun z => z = true) ht
  simp only [decide_eq_true_eq] at hb1
  constructor
  · intro h
    have h' : (m ^^^ n) / 2 ^ (7 - k) % 2 = 1 := by omega
    have := hb1.mp h'
    simpa using this
  · intro h
    have : (m ^^^ n) / 2 ^ (7 - k) % 2 = 1 := hb1.mpr (by simpa using h)
    omega
section
variable (d : Nat → Bool)
def pbF : Nat → Nat → Int → Int → Int
  | 0, _, f, l => if f < 0 then 0 else l - f + 1
  | m + 1, i, f, l => if d i then pbF m (i + 1) (if f < 0 then (i : Int) else f) (i : Int) else pbF m (i + 1) f l
def noneF : Nat → Nat → Bool
  | 0, _ => true
  | m + 1, i => !d i && noneF m (i + 1)
def runF : Nat → Nat → Int → Int
  | 0, _, c => c
  | m + 1, k, c => if noneF d (m + 1) (k + 1) then c else runF m (k + 1) (c + 1)
def lbF : Nat → Nat → Int → Int
  | 0, _, n => n
  | m + 1, i, n => lbF m (i + 1) (if n = 0 then (if d i then runF d m i 1 else 0) else n)
theorem lbF_keep : ∀ (m i : Nat) (n : Int), n ≠ 0 → lbF d m i n = n
  | 0, _, _, _ => rfl
  | m + 1, i, n, h => by unfold lbF; rw [if_neg h]; exact lbF_keep m (i + 1) n h
theorem pbF_none : ∀ (m i : Nat) (f l : Int), 0 ≤ f → noneF d m i = true → pbF d m i f l = l - f + 1
  | 0, _, f, l, hf, _ => by unfold pbF; rw [if_neg (by omega)]
  | m + 1, i, f, l, hf, h => by
    simp only [noneF, Bool.and_eq_true, Bool.not_eq_true'] at h
    unfold pbF
    rw [if_neg (by simp [h.1])]
    exact pbF_none m (i + 1) f l hf h.2
theorem pbF_run : ∀ (m k : Nat) (f l c : Int), 0 ≤ f → (noneF d m (k + 1) = false ∨ l = (k : Int)) → pbF d m (k + 1) f l = runF d m k c + ((k : Int) + 1 - f) - c
  | 0, k, f, l, c, hf, h => by
    have hl : l = (k : Int) := by rcases h with h | h; · simp [noneF] at h
                                  · exact h
    unfold pbF runF
    rw [if_neg (by omega)]; omega
  | m + 1, k, f, l, c, hf, h => by
    by_cases hn : noneF d (m + 1) (k + 1) = true
    · have hl : l = (k : Int) := by rcases h with h | h; · rw [hn] at h; cases h
                                    · exact h
      rw [pbF_none d (m + 1) (k + 1) f l hf hn]
      unfold runF
      rw [if_pos hn]; omega
    · unfold runF
      rw [if_neg hn]
      unfold pbF
      by_cases hd : d (k + 1) = true
      · rw [if_pos hd, if_neg (by omega)]
        have := pbF_run m (k + 1) f ((k + 1 : Nat) : Int) (c + 1) hf (.inr rfl)
        rw [this]; omega
      · rw [if_neg hd]
        have hn' : noneF d m (k + 2) = false := by
          cases hq : noneF d m (k + 2) with
          | false => rfl
          | true => exact absurd (by unfold noneF; rw [hq]; simp [hd]) hn
        have := pbF_run m (k + 1) f l (c + 1) hf (.inl hn')
        rw [this]; omega
theorem runF_pos : ∀ (m k : Nat) (c : Int), 1 ≤ c → 1 ≤ runF d m k c
  | 0, _, c, h => h
  | m + 1, k, c, h => by unfold runF; split; · exact h
                         · exact runF_pos m (k + 1) (c + 1) (by omega)
theorem lb_pb : ∀ (m i : Nat), lbF d m i 0 = pbF d m i (-1) (-1)
  | 0, i => by unfold lbF pbF; rw [if_pos (by omega)]
  | m + 1, i => by
    unfold lbF pbF
    rw [if_pos rfl]
    by_cases hd : d i = true
    · rw [if_pos hd, if_pos hd, if_pos (by omega)]
      have h1 := runF_pos d m i 1 (by omega)
      rw [lbF_keep d m (i + 1) _ (by omega), pbF_run d m i (i : Int) (i : Int) 1 (by omega) (.inr rfl)]
      omega
    · rw [if_neg hd, if_neg hd]
      exact lb_pb m (i + 1)
end
end Go.Proofs.Ytmedmifkeliepaa.Bk
