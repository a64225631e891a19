/-
  Numbers rounded to 32 bits, as the program's pack has them. Conditions stand in each lemma.
-/
import Derived.Test.YtmedmifkeliepaaZFmNat
import Derived.Test.YtmedmifkeliepaaPFiveMulsx0
import Derived.Test.YtmedmifkeliepaaPFiveMulsx1
import Derived.Test.YtmedmifkeliepaaPFiveMulsx2
import Derived.Test.YtmedmifkeliepaaPFiveMulsx3
import Derived.Test.YtmedmifkeliepaaPFiveMulsx4
import Derived.Test.YtmedmifkeliepaaPFiveMulsx5
import Derived.Test.YtmedmifkeliepaaPFiveMulsx6
import Derived.Test.YtmedmifkeliepaaPFiveMulsx7
import Derived.Test.YtmedmifkeliepaaPFiveMulsx8
import Derived.Test.YtmedmifkeliepaaPFiveMulsx9
set_option linter.unusedVariables false
set_option linter.unusedSimpArgs false
namespace Go.Proofs.Ytmedmifkeliepaa.BkFiveMuls
open Go Go.RowKit Go.Proofs.YtmedmifkeliepaaW.PrintWords Go.Proofs.YtmedmifkeliepaaW.PrintLast Go.Proofs.YtmedmifkeliepaaW.PrintMore Go.Proofs.Ytmedmifkeliepaa.PFiveMuls Go.Proofs.Ytmedmifkeliepaa.Bk
set_option maxRecDepth 100000 in
theorem tab8_all : ∀ i : Fin 256, 0 < i.1 → 1 ≤ (bt (⟨#[0, 1, 2, 2, 3, 3, 3, 3, 4, 4, 4, 4, 4, 4, 4, 4, 5, 5, 5, 5, 5, 5, 5, 5, 5, 5, 5, 5, 5, 5, 5, 5, 6, 6, 6, 6, 6, 6, 6, 6, 6, 6, 6, 6, 6, 6, 6, 6, 6, 6, 6, 6, 6, 6, 6, 6, 6, 6, 6, 6, 6, 6, 6, 6, 7, 7, 7, 7, 7, 7, 7, 7, 7, 7, 7, 7, 7, 7, 7, 7, 7, 7, 7, 7, 7, 7, 7, 7, 7, 7, 7, 7, 7, 7, 7, 7, 7, 7, 7, 7, 7, 7, 7, 7, 7, 7, 7, 7, 7, 7, 7, 7, 7, 7, 7, 7, 7, 7, 7, 7, 7, 7, 7, 7, 7, 7, 7, 7, 8, 8, 8, 8, 8, 8, 8, 8, 8, 8, 8, 8, 8, 8, 8, 8, 8, 8, 8, 8, 8, 8, 8, 8, 8, 8, 8, 8, 8, 8, 8, 8, 8, 8, 8, 8, 8, 8, 8, 8, 8, 8, 8, 8, 8, 8, 8, 8, 8, 8, 8, 8, 8, 8, 8, 8, 8, 8, 8, 8, 8, 8, 8, 8, 8, 8, 8, 8, 8, 8, 8, 8, 8, 8, 8, 8, 8, 8, 8, 8, 8, 8, 8, 8, 8, 8, 8, 8, 8, 8, 8, 8, 8, 8, 8, 8, 8, 8, 8, 8, 8, 8, 8, 8, 8, 8, 8, 8, 8, 8, 8, 8, 8, 8, 8, 8, 8, 8, 8, 8, 8, 8, 8, 8, 8, 8, 8, 8]⟩ : ByteArray) (i.1 : Int)).toNat ∧ (bt (⟨#[0, 1, 2, 2, 3, 3, 3, 3, 4, 4, 4, 4, 4, 4, 4, 4, 5, 5, 5, 5, 5, 5, 5, 5, 5, 5, 5, 5, 5, 5, 5, 5, 6, 6, 6, 6, 6, 6, 6, 6, 6, 6, 6, 6, 6, 6, 6, 6, 6, 6, 6, 6, 6, 6, 6, 6, 6, 6, 6, 6, 6, 6, 6, 6, 7, 7, 7, 7, 7, 7, 7, 7, 7, 7, 7, 7, 7, 7, 7, 7, 7, 7, 7, 7, 7, 7, 7, 7, 7, 7, 7, 7, 7, 7, 7, 7, 7, 7, 7, 7, 7, 7, 7, 7, 7, 7, 7, 7, 7, 7, 7, 7, 7, 7, 7, 7, 7, 7, 7, 7, 7, 7, 7, 7, 7, 7, 7, 7, 8, 8, 8, 8, 8, 8, 8, 8, 8, 8, 8, 8, 8, 8, 8, 8, 8, 8, 8, 8, 8, 8, 8, 8, 8, 8, 8, 8, 8, 8, 8, 8, 8, 8, 8, 8, 8, 8, 8, 8, 8, 8, 8, 8, 8, 8, 8, 8, 8, 8, 8, 8, 8, 8, 8, 8, 8, 8, 8, 8, 8, 8, 8, 8, 8, 8, 8, 8, 8, 8, 8, 8, 8, 8, 8, 8, 8, 8, 8, 8, 8, 8, 8, 8, 8, 8, 8, 8, 8, 8, 8, 8, 8, 8, 8, 8, 8, 8, 8, 8, 8, 8, 8, 8, 8, 8, 8, 8, 8, 8, 8, 8, 8, 8, 8, 8, 8, 8, 8, 8, 8, 8, 8, 8, 8, 8, 8, 8]⟩ : ByteArray) (i.1 : Int)).toNat ≤ 8 ∧ 2 ^ ((bt (⟨#[0, 1, 2, 2, 3, 3, 3, 3, 4, 4, 4, 4, 4, 4, 4, 4, 5, 5, 5, 5, 5, 5, 5, 5, 5, 5, 5, 5, 5, 5, 5, 5, 6, 6, 6, 6, 6, 6, 6, 6, 6, 6, 6, 6, 6, 6, 6, 6, 6, 6, 6, 6, 6, 6, 6, 6, 6, 6, 6, 6, 6, 6, 6, 6, 7, 7, 7, 7, 7, 7, 7, 7, 7, 7, 7, 7, 7, 7, 7, 7, 7, 7, 7, 7, 7, 7, 7, 7, 7, 7, 7, 7, 7, 7, 7, 7, 7, 7, 7, 7, 7, 7, 7, 7, 7, 7, 7, 7, 7, 7, 7, 7, 7, 7, 7, 7, 7, 7, 7, 7, 7, 7, 7, 7, 7, 7, 7, 7, 8, 8, 8, 8, 8, 8, 8, 8, 8, 8, 8, 8, 8, 8, 8, 8, 8, 8, 8, 8, 8, 8, 8, 8, 8, 8, 8, 8, 8, 8, 8, 8, 8, 8, 8, 8, 8, 8, 8, 8, 8, 8, 8, 8, 8, 8, 8, 8, 8, 8, 8, 8, 8, 8, 8, 8, 8, 8, 8, 8, 8, 8, 8, 8, 8, 8, 8, 8, 8, 8, 8, 8, 8, 8, 8, 8, 8, 8, 8, 8, 8, 8, 8, 8, 8, 8, 8, 8, 8, 8, 8, 8, 8, 8, 8, 8, 8, 8, 8, 8, 8, 8, 8, 8, 8, 8, 8, 8, 8, 8, 8, 8, 8, 8, 8, 8, 8, 8, 8, 8, 8, 8, 8, 8, 8, 8, 8, 8]⟩ : ByteArray) (i.1 : Int)).toNat - 1) ≤ i.1 ∧ i.1 < 2 ^ (bt (⟨#[0, 1, 2, 2, 3, 3, 3, 3, 4, 4, 4, 4, 4, 4, 4, 4, 5, 5, 5, 5, 5, 5, 5, 5, 5, 5, 5, 5, 5, 5, 5, 5, 6, 6, 6, 6, 6, 6, 6, 6, 6, 6, 6, 6, 6, 6, 6, 6, 6, 6, 6, 6, 6, 6, 6, 6, 6, 6, 6, 6, 6, 6, 6, 6, 7, 7, 7, 7, 7, 7, 7, 7, 7, 7, 7, 7, 7, 7, 7, 7, 7, 7, 7, 7, 7, 7, 7, 7, 7, 7, 7, 7, 7, 7, 7, 7, 7, 7, 7, 7, 7, 7, 7, 7, 7, 7, 7, 7, 7, 7, 7, 7, 7, 7, 7, 7, 7, 7, 7, 7, 7, 7, 7, 7, 7, 7, 7, 7, 8, 8, 8, 8, 8, 8, 8, 8, 8, 8, 8, 8, 8, 8, 8, 8, 8, 8, 8, 8, 8, 8, 8, 8, 8, 8, 8, 8, 8, 8, 8, 8, 8, 8, 8, 8, 8, 8, 8, 8, 8, 8, 8, 8, 8, 8, 8, 8, 8, 8, 8, 8, 8, 8, 8, 8, 8, 8, 8, 8, 8, 8, 8, 8, 8, 8, 8, 8, 8, 8, 8, 8, 8, 8, 8, 8, 8, 8, 8, 8, 8, 8, 8, 8, 8, 8, 8, 8, 8, 8, 8, 8, 8, 8, 8, 8, 8, 8, 8, 8, 8, 8, 8, 8, 8, 8, 8, 8, 8, 8, 8, 8, 8, 8, 8, 8, 8, 8, 8, 8, 8, 8, 8, 8, 8, 8, 8, 8]⟩ : ByteArray) (i.1 : Int)).toNat := by decide +kernel
theorem tab8 (i : Nat) (h0 : 0 < i) (h1 : i < 256) : ∃ L : Nat, 1 ≤ L ∧ L ≤ 8 ∧ 2 ^ (L - 1) ≤ i ∧ i < 2 ^ L ∧ bt (⟨#[0, 1, 2, 2, 3, 3, 3, 3, 4, 4, 4, 4, 4, 4, 4, 4, 5, 5, 5, 5, 5, 5, 5, 5, 5, 5, 5, 5, 5, 5, 5, 5, 6, 6, 6, 6, 6, 6, 6, 6, 6, 6, 6, 6, 6, 6, 6, 6, 6, 6, 6, 6, 6, 6, 6, 6, 6, 6, 6, 6, 6, 6, 6, 6, 7, 7, 7, 7, 7, 7, 7, 7, 7, 7, 7, 7, 7, 7, 7, 7, 7, 7, 7, 7, 7, 7, 7, 7, 7, 7, 7, 7, 7, 7, 7, 7, 7, 7, 7, 7, 7, 7, 7, 7, 7, 7, 7, 7, 7, 7, 7, 7, 7, 7, 7, 7, 7, 7, 7, 7, 7, 7, 7, 7, 7, 7, 7, 7, 8, 8, 8, 8, 8, 8, 8, 8, 8, 8, 8, 8, 8, 8, 8, 8, 8, 8, 8, 8, 8, 8, 8, 8, 8, 8, 8, 8, 8, 8, 8, 8, 8, 8, 8, 8, 8, 8, 8, 8, 8, 8, 8, 8, 8, 8, 8, 8, 8, 8, 8, 8, 8, 8, 8, 8, 8, 8, 8, 8, 8, 8, 8, 8, 8, 8, 8, 8, 8, 8, 8, 8, 8, 8, 8, 8, 8, 8, 8, 8, 8, 8, 8, 8, 8, 8, 8, 8, 8, 8, 8, 8, 8, 8, 8, 8, 8, 8, 8, 8, 8, 8, 8, 8, 8, 8, 8, 8, 8, 8, 8, 8, 8, 8, 8, 8, 8, 8, 8, 8, 8, 8, 8, 8, 8, 8, 8, 8]⟩ : ByteArray) (i : Int) = (L : Int) := by
  have h := tab8_all ⟨i, h1⟩ h0
  have hr := bt_range (⟨#[0, 1, 2, 2, 3, 3, 3, 3, 4, 4, 4, 4, 4, 4, 4, 4, 5, 5, 5, 5, 5, 5, 5, 5, 5, 5, 5, 5, 5, 5, 5, 5, 6, 6, 6, 6, 6, 6, 6, 6, 6, 6, 6, 6, 6, 6, 6, 6, 6, 6, 6, 6, 6, 6, 6, 6, 6, 6, 6, 6, 6, 6, 6, 6, 7, 7, 7, 7, 7, 7, 7, 7, 7, 7, 7, 7, 7, 7, 7, 7, 7, 7, 7, 7, 7, 7, 7, 7, 7, 7, 7, 7, 7, 7, 7, 7, 7, 7, 7, 7, 7, 7, 7, 7, 7, 7, 7, 7, 7, 7, 7, 7, 7, 7, 7, 7, 7, 7, 7, 7, 7, 7, 7, 7, 7, 7, 7, 7, 8, 8, 8, 8, 8, 8, 8, 8, 8, 8, 8, 8, 8, 8, 8, 8, 8, 8, 8, 8, 8, 8, 8, 8, 8, 8, 8, 8, 8, 8, 8, 8, 8, 8, 8, 8, 8, 8, 8, 8, 8, 8, 8, 8, 8, 8, 8, 8, 8, 8, 8, 8, 8, 8, 8, 8, 8, 8, 8, 8, 8, 8, 8, 8, 8, 8, 8, 8, 8, 8, 8, 8, 8, 8, 8, 8, 8, 8, 8, 8, 8, 8, 8, 8, 8, 8, 8, 8, 8, 8, 8, 8, 8, 8, 8, 8, 8, 8, 8, 8, 8, 8, 8, 8, 8, 8, 8, 8, 8, 8, 8, 8, 8, 8, 8, 8, 8, 8, 8, 8, 8, 8, 8, 8, 8, 8, 8, 8]⟩ : ByteArray) (i : Int)
  generalize bt (⟨#[0, 1, 2, 2, 3, 3, 3, 3, 4, 4, 4, 4, 4, 4, 4, 4, 5, 5, 5, 5, 5, 5, 5, 5, 5, 5, 5, 5, 5, 5, 5, 5, 6, 6, 6, 6, 6, 6, 6, 6, 6, 6, 6, 6, 6, 6, 6, 6, 6, 6, 6, 6, 6, 6, 6, 6, 6, 6, 6, 6, 6, 6, 6, 6, 7, 7, 7, 7, 7, 7, 7, 7, 7, 7, 7, 7, 7, 7, 7, 7, 7, 7, 7, 7, 7, 7, 7, 7, 7, 7, 7, 7, 7, 7, 7, 7, 7, 7, 7, 7, 7, 7, 7, 7, 7, 7, 7, 7, 7, 7, 7, 7, 7, 7, 7, 7, 7, 7, 7, 7, 7, 7, 7, 7, 7, 7, 7, 7, 8, 8, 8, 8, 8, 8, 8, 8, 8, 8, 8, 8, 8, 8, 8, 8, 8, 8, 8, 8, 8, 8, 8, 8, 8, 8, 8, 8, 8, 8, 8, 8, 8, 8, 8, 8, 8, 8, 8, 8, 8, 8, 8, 8, 8, 8, 8, 8, 8, 8, 8, 8, 8, 8, 8, 8, 8, 8, 8, 8, 8, 8, 8, 8, 8, 8, 8, 8, 8, 8, 8, 8, 8, 8, 8, 8, 8, 8, 8, 8, 8, 8, 8, 8, 8, 8, 8, 8, 8, 8, 8, 8, 8, 8, 8, 8, 8, 8, 8, 8, 8, 8, 8, 8, 8, 8, 8, 8, 8, 8, 8, 8, 8, 8, 8, 8, 8, 8, 8, 8, 8, 8, 8, 8, 8, 8, 8, 8]⟩ : ByteArray) (i : Int) = z at h hr ⊢
  exact ⟨z.toNat, h.1, h.2.1, h.2.2.1, h.2.2.2, by omega⟩
theorem pow_shift {x s l : Nat} (hl : 1 ≤ l) (h0 : 2 ^ (l - 1) ≤ x / 2 ^ s) (h1 : x / 2 ^ s < 2 ^ l) : 2 ^ (s + l - 1) ≤ x ∧ x < 2 ^ (s + l) := by
  have hp : 0 < 2 ^ s := Nat.pow_pos (by decide)
  rw [Nat.le_div_iff_mul_le hp] at h0
  rw [Nat.div_lt_iff_lt_mul hp] at h1
  rw [show s + l - 1 = (l - 1) + s by omega, Nat.pow_add, show s + l = l + s by omega, Nat.pow_add]
  exact ⟨h0, h1⟩
set_option maxRecDepth 100000 in
theorem len32_ev (x c : Nat) (h0 : 0 < x) (h1 : x < 4294967296) (hc : c ≤ 32) : ∃ L : Nat, 1 ≤ L ∧ L ≤ 32 ∧ 2 ^ (L - 1) ≤ x ∧ x < 2 ^ L ∧ Ev (fun k => bits_Len64.j0 k (x : Int) (c : Int)) ((c + L : Nat) : Int) := by
  by_cases a : 65536 ≤ x
  · by_cases b : 16777216 ≤ x
    · obtain ⟨L, l1, l8, p0, p1, e⟩ := tab8 (x / 2 ^ 24) (by omega) (by omega)
      obtain ⟨q0, q1⟩ := pow_shift l1 p0 p1
      refine ⟨24 + L, by omega, by omega, q0, q1, Ev.done fun k => ?_⟩
      have ei : (((x : Int) / 65536) / 256) % 256 = ((x / 2 ^ 24 : Nat) : Int) := by omega
      rw [bits_Len64.j0.eq_2]
      rw [if_pos (by omega), if_pos (by omega), ei, if_pos (by omega), if_pos (by omega), e, w64 (L : Int) (by omega) (by omega), w64 ((c : Int) + 16) (by omega) (by omega), w64 ((c : Int) + 16 + 8) (by omega) (by omega), w64 _ (by omega) (by omega)]
      exact congrArg some (by omega)
    · obtain ⟨L, l1, l8, p0, p1, e⟩ := tab8 (x / 2 ^ 16) (by omega) (by omega)
      obtain ⟨q0, q1⟩ := pow_shift l1 p0 p1
      refine ⟨16 + L, by omega, by omega, q0, q1, Ev.done fun k => ?_⟩
      have ei : ((x : Int) / 65536) % 256 = ((x / 2 ^ 16 : Nat) : Int) := by omega
      rw [bits_Len64.j0.eq_2]
      rw [if_pos (by omega), if_neg (by omega), ei, if_pos (by omega), if_pos (by omega), e, w64 (L : Int) (by omega) (by omega), w64 ((c : Int) + 16) (by omega) (by omega), w64 _ (by omega) (by omega)]
      exact congrArg some (by omega)
  · by_cases b : 256 ≤ x
    · obtain ⟨L, l1, l8, p0, p1, e⟩ := tab8 (x / 2 ^ 8) (by omega) (by omega)
      obtain ⟨q0, q1⟩ := pow_shift l1 p0 p1
      refine ⟨8 + L, by omega, by omega, q0, q1, Ev.done fun k => ?_⟩
      have ei : ((x : Int) / 256) % 256 = ((x / 2 ^ 8 : Nat) : Int) := by omega
      rw [bits_Len64.j0.eq_2]
      rw [if_neg (by omega), if_pos (by omega), ei, if_pos (by omega), if_pos (by omega), e, w64 (L : Int) (by omega) (by omega), w64 ((c : Int) + 8) (by omega) (by omega), w64 _ (by omega) (by omega)]
      exact congrArg some (by omega)
    · obtain ⟨L, l1, l8, p0, p1, e⟩ := tab8 x (by omega) (by omega)
      refine ⟨L, by omega, by omega, p0, p1, Ev.done fun k => ?_⟩
      have ei : (x : Int) % 256 = (x : Int) := by omega
      rw [bits_Len64.j0.eq_2]
      rw [if_neg (by omega), if_neg (by omega), ei, if_pos (by omega), if_pos (by omega), e, w64 (L : Int) (by omega) (by omega), w64 _ (by omega) (by omega)]
      exact congrArg some (by omega)
/-- How many bits a number has. -/
theorem len64_ev (x : Nat) (h0 : 0 < x) (h1 : x < 18446744073709551616) : ∃ L : Nat, 1 ≤ L ∧ L ≤ 64 ∧ 2 ^ (L - 1) ≤ x ∧ x < 2 ^ L ∧ Ev (fun k => bits_Len64.f k (x : Int)) (L : Int) := by
  by_cases a : 4294967296 ≤ x
  · obtain ⟨L, l1, l2, p0, p1, e⟩ := len32_ev (x / 2 ^ 32) 32 (by omega) (by omega) (by omega)
    obtain ⟨q0, q1⟩ := pow_shift l1 p0 p1
    refine ⟨32 + L, by omega, by omega, q0, q1, ?_⟩
    unfold bits_Len64.f
    refine Ev.pos (by omega) ?_
    have ei : (x : Int) / 4294967296 = ((x / 2 ^ 32 : Nat) : Int) := by omega
    rw [ei]; exact e
  · obtain ⟨L, l1, l2, p0, p1, e⟩ := len32_ev x 0 (by omega) (by omega) (by omega)
    refine ⟨L, by omega, by omega, p0, p1, ?_⟩
    unfold bits_Len64.f
    refine Ev.neg (by omega) ?_
    rw [Nat.zero_add] at e
    exact e
theorem wraps_u64 (n : Int) (h₀ : 0 ≤ n) (h₁ : n < 2 ^ 64) : IntKind.u64.wrap n = n := wu64 n h₀ (by omega)
theorem or_comm_ (k : IntKind) (x y : Int) : Go.bits .or k x y = Go.bits .or k y x := by
  simp only [Go.bits]; rw [BitVec.or_comm]
theorem or31 (m : Nat) (h : m < 4294967296) : Go.bits .or .u64 (m : Int) 2147483648 = if 2147483648 ≤ m then (m : Int) else (m : Int) + 2147483648 := by
  by_cases a : 2147483648 ≤ m
  · rw [if_pos a, show (2147483648 : Int) = ((2147483648 : Nat) : Int) from rfl, (bits_nat .u64 64 (by decide) wraps_u64 m 2147483648 (by omega) (by omega)).2]
    congr 1
    obtain ⟨r, hr⟩ : ∃ r, m = 2147483648 * 1 + r := ⟨m - 2147483648, by omega⟩
    have hr2 : r < 2 ^ 31 := by omega
    have e := Nat.two_pow_add_eq_or_of_lt hr2 1
    rw [show (2 : Nat) ^ 31 = 2147483648 from rfl] at e
    rw [hr, e, Nat.or_comm, ← Nat.or_assoc, Nat.mul_one, Nat.or_self]
  · rw [if_neg a, or_comm_, bits_join .u64 64 (by decide) wraps_u64 31 2147483648 (m : Int) (by decide) (by decide) (by decide) (by omega) (by omega) (by omega), Int.add_comm]
theorem andNot31 (m : Nat) (h0 : 2147483648 ≤ m) (h : m < 4294967296) : Go.bits .andNot .u64 (m : Int) 2147483648 = (m : Int) - 2147483648 := by
  obtain ⟨r, hr⟩ : ∃ r, m = 2147483648 * 1 + r := ⟨m - 2147483648, by omega⟩
  have hr2 : r < 2 ^ 31 := by omega
  have e := Nat.two_pow_add_eq_or_of_lt hr2 1
  rw [show (2 : Nat) ^ 31 = 2147483648 from rfl] at e
  have hb : (BitVec.ofNat 64 m &&& ~~~ BitVec.ofNat 64 2147483648) = BitVec.ofNat 64 r := by
    apply BitVec.eq_of_getLsbD_eq
    intro i hi
    rw [BitVec.getLsbD_and, BitVec.getLsbD_not, BitVec.getLsbD_ofNat, BitVec.getLsbD_ofNat, BitVec.getLsbD_ofNat, hr, e, Nat.mul_one, Nat.testBit_or, show (2147483648 : Nat) = 2 ^ 31 from rfl, Nat.testBit_two_pow]
    by_cases h31 : 31 = i
    · subst h31
      rw [Nat.testBit_lt_two_pow hr2]; simp
    · simp [h31, hi]
  show IntKind.u64.wrap (((BitVec.ofInt 64 (m : Int)) &&& ~~~ (BitVec.ofInt 64 ((2147483648 : Nat) : Int))).toNat : Int) = _
  rw [BitVec.ofInt_natCast, BitVec.ofInt_natCast, hb, BitVec.toNat_ofNat, Nat.mod_eq_of_lt (by omega), wu64 _ (by omega) (by omega)]
  omega
theorem pack_j1 (neg : Bool) (e n : Int) (m : Nat) (he : -100000 ≤ e ∧ e ≤ 100000) (hn : -100000 ≤ n ∧ n ≤ 100000) (h0 : 2147483648 ≤ m) (h1 : m < 4294967296) : Ev (fun k => five_pack.j1 k neg (m : Int) e n) (pk neg (e + n) (m : Int)) := by
  refine Ev.done fun k => ?_
  simp only [five_pack.j1]
  have ho : Go.bits .or .u64 ((m : Int) - 2147483648) 2147483648 = (m : Int) := by
    have := or31 (m - 2147483648) (by omega)
    rw [if_neg (by omega), Int.natCast_sub h0, show ((2147483648 : Nat) : Int) = 2147483648 from rfl] at this
    rw [this]; omega
  rw [w64 (e + n) (by omega) (by omega), w64 (e + n + 160) (by omega) (by omega), andNot31 m h0 h1, ho]
  unfold pk
  by_cases a : e + n + 160 > 255
  · rw [if_pos a, if_pos a]
  · rw [if_neg a, if_neg a]
    by_cases b : e + n + 160 < 1
    · rw [if_pos b, if_pos b]
    · rw [if_neg b, if_neg b]
      by_cases c : neg = true
      · simp only [c, if_true]
      · simp only [c]; rfl
theorem pack_j0 (neg : Bool) (e n : Int) (q : Nat) (up : Bool) (he : -90000 ≤ e ∧ e ≤ 90000) (hn : -90000 ≤ n ∧ n ≤ 90000) (h0 : 2147483648 ≤ q) (h1 : q < 4294967296) : Ev (fun k => five_pack.j0 k neg (q : Int) e n up) (rnd neg (e + n) q up) := by
  unfold rnd
  by_cases a : up = true
  · rw [if_pos a]
    by_cases b : q + 1 = 4294967296
    · rw [if_pos b]
      have h := pack_j1 neg e (n + 1) 2147483648 (by omega) (by omega) (by omega) (by omega)
      rw [← Int.add_assoc] at h
      refine Ev.step (fun k => ?_) h
      simp only [five_pack.j0]
      rw [if_pos a, wu64 _ (by omega) (by omega), if_pos (by omega), w64 _ (by omega) (by omega)]
      rfl
    · rw [if_neg b]
      refine Ev.step (fun k => ?_) (pack_j1 neg e n (q + 1) (by omega) (by omega) (by omega) (by omega))
      simp only [five_pack.j0]
      rw [if_pos a, wu64 _ (by omega) (by omega), if_neg (by omega)]
      rfl
  · rw [if_neg a]
    refine Ev.step (fun k => ?_) (pack_j1 neg e n q (by omega) (by omega) h0 h1)
    simp only [five_pack.j0]
    rw [if_neg a, if_neg (by omega)]
def upP (rest half q : Nat) (more : Bool) : Bool := if half < rest then true else if rest = half then (if more = true then true else (q % 2 == 1)) else false
theorem shlU (x : Nat) (y : Nat) (hy : y ≤ 64) (h : x * 2 ^ y < 18446744073709551616) : shl .u64 (x : Int) (y : Int) = ((x * 2 ^ y : Nat) : Int) := by
  unfold shl
  rw [Int.toNat_natCast, Nat.min_eq_left (by simp only [IntKind.bits]; omega)]
  have e : (x : Int) * (2 : Int) ^ y = ((x * 2 ^ y : Nat) : Int) := by simp
  rw [e]
  generalize x * 2 ^ y = z at h ⊢
  exact wu64 _ (by omega) (by omega)
theorem shrU (x : Nat) (y : Nat) (hy : y ≤ 64) : shr .u64 (x : Int) (y : Int) = ((x / 2 ^ y : Nat) : Int) := by
  unfold shr
  rw [Int.toNat_natCast, Nat.min_eq_left (by simp only [IntKind.bits]; omega)]
  simp
theorem maskU (x y : Nat) (hy : y ≤ 63) (h : x < 18446744073709551616) : Go.bits .and .u64 (x : Int) (IntKind.u64.wrap ((shl .u64 1 (y : Int)) - 1)) = ((x % 2 ^ y : Nat) : Int) := by
  have h2 : (2 : Nat) ^ y ≤ 2 ^ 63 := Nat.pow_le_pow_right (by decide) hy
  have h3 : 0 < (2 : Nat) ^ y := Nat.pow_pos (by decide)
  have e := shlU 1 y (by omega) (by omega)
  rw [Nat.one_mul] at e
  rw [show (1 : Int) = ((1 : Nat) : Int) from rfl, e]
  have e2 : IntKind.u64.wrap (((2 ^ y : Nat) : Int) - ((1 : Nat) : Int)) = (2 : Int) ^ y - 1 := by
    have e3 : (2 : Int) ^ y = ((2 ^ y : Nat) : Int) := by simp
    rw [e3]
    generalize (2 : Nat) ^ y = z at h2 h3 ⊢
    exact wu64 _ (by omega) (by omega)
  rw [e2, bits_mask .u64 64 (by decide) wraps_u64 y (by omega) (x : Int) (by omega) (by omega)]
  simp
/-- A number rounded to 32 bits. -/
theorem pack_ev (neg more : Bool) (m : Nat) (e : Int) (h0 : 0 < m) (h1 : m < 18446744073709551616) (he : -50000 ≤ e ∧ e ≤ 50000) :
    ∃ L : Nat, 1 ≤ L ∧ L ≤ 64 ∧ 2 ^ (L - 1) ≤ m ∧ m < 2 ^ L ∧ Ev (fun k => five_pack.f k neg (m : Int) e more) (if L ≤ 32 then rnd neg (e + (L - 32)) (m * 2 ^ (32 - L)) false else rnd neg (e + (L - 32)) (m / 2 ^ (L - 32)) (upP (m % 2 ^ (L - 32)) (2 ^ (L - 33)) (m / 2 ^ (L - 32)) more)) := by
  obtain ⟨L, l1, l2, p0, p1, hL⟩ := len64_ev m h0 h1
  refine ⟨L, l1, l2, p0, p1, ?_⟩
  unfold five_pack.f
  refine Ev.neg (by omega) (Ev.bind hL ?_)
  have hw : wrap64 ((L : Int) - 32) = (L : Int) - 32 := w64 _ (by omega) (by omega)
  by_cases a : L ≤ 32
  · rw [if_pos a]
    have hm0 : 2147483648 ≤ m * 2 ^ (32 - L) := by
      have := Nat.mul_le_mul_right (2 ^ (32 - L)) p0
      rw [← Nat.pow_add, show L - 1 + (32 - L) = 31 by omega] at this
      exact this
    have hm1 : m * 2 ^ (32 - L) < 4294967296 := by
      have := Nat.mul_lt_mul_of_pos_right p1 (Nat.pow_pos (a := 2) (n := 32 - L) (by decide))
      rw [← Nat.pow_add, show L + (32 - L) = 32 by omega] at this
      exact this
    have hr : rnd neg (e + ((L : Int) - 32)) (m * 2 ^ (32 - L)) false = pk neg (e + ((L : Int) - 32)) ((m * 2 ^ (32 - L) : Nat) : Int) := by simp [rnd]
    rw [hr]
    have hw2 : wrap64 (-((L : Int) - 32)) = ((32 - L : Nat) : Int) := by rw [w64 _ (by omega) (by omega)]; omega
    have hs := shlU m (32 - L) (by omega) (Nat.lt_trans hm1 (by decide))
    have hj := pack_j1 neg e ((L : Int) - 32) (m * 2 ^ (32 - L)) (by omega) (by omega) hm0 hm1
    refine Ev.pos (by rw [hw]; omega) (Ev.pos (by rw [hw, hw2]; omega) ?_)
    rw [hw, hw2, hs]
    exact hj
  · rw [if_neg a]
    have hLn : (L : Int) - 32 = ((L - 32 : Nat) : Int) := by omega
    have hLm : wrap64 ((L : Int) - 32 - 1) = ((L - 33 : Nat) : Int) := by rw [w64 _ (by omega) (by omega)]; omega
    have hq0 : 2147483648 ≤ m / 2 ^ (L - 32) := by
      rw [Nat.le_div_iff_mul_le (Nat.pow_pos (by decide)), show (2147483648 : Nat) = 2 ^ 31 from rfl, ← Nat.pow_add, show 31 + (L - 32) = L - 1 by omega]
      exact p0
    have hq1 : m / 2 ^ (L - 32) < 4294967296 := by
      rw [Nat.div_lt_iff_lt_mul (Nat.pow_pos (by decide)), show (4294967296 : Nat) = 2 ^ 32 from rfl, ← Nat.pow_add, show 32 + (L - 32) = L by omega]
      exact p1
    have hp33 : 2 ^ (L - 33) < 18446744073709551616 := Nat.lt_of_lt_of_le (Nat.pow_lt_pow_right (by decide) (by omega : L - 33 < 64)) (by decide)
    have e1 := maskU m (L - 32) (by omega) h1
    have e2 := shlU 1 (L - 33) (by omega) (by rw [Nat.one_mul]; exact hp33)
    rw [Nat.one_mul, show ((1 : Nat) : Int) = 1 from rfl] at e2
    have e3 := shrU m (L - 32) (by omega)
    refine Ev.neg (by rw [hw]; omega) (Ev.pos (by rw [hw]; omega) (Ev.pos (by rw [hw, hLm]; omega) ?_))
    rw [hw, hLm, hLn, e1, e2, e3]
    have hj := fun up => pack_j0 neg e ((L - 32 : Nat) : Int) (m / 2 ^ (L - 32)) up (by omega) (by omega) hq0 hq1
    generalize m / 2 ^ (L - 32) = q at *
    generalize m % 2 ^ (L - 32) = rest at *
    generalize 2 ^ (L - 33) = half at *
    unfold upP
    by_cases b : half < rest
    · rw [if_pos b]
      exact Ev.pos (by omega) (hj true)
    · rw [if_neg b]
      refine Ev.neg (by omega) ?_
      by_cases c : rest = half
      · rw [if_pos c]
        refine Ev.pos (by omega) ?_
        by_cases d : more = true
        · rw [if_pos d]
          exact Ev.pos d (hj true)
        · rw [if_neg d]
          refine Ev.neg d ?_
          have hb : (Go.bits .and .u64 (q : Int) 1 == 1) = (q % 2 == 1) := by
            rw [show (1 : Int) = 2 ^ 1 - 1 from rfl, bits_mask .u64 64 (by decide) wraps_u64 1 (by omega) (q : Int) (by omega) (by omega), Bool.eq_iff_iff, beq_iff_eq, beq_iff_eq]; omega
          have := hj (q % 2 == 1)
          rw [← hb] at this ⊢
          exact this
      · rw [if_neg c]
        exact Ev.neg (by omega) (hj false)
theorem dig_one : dig 1 = [1] := by rw [dig_pos (by decide), dig_zero]; rfl
theorem near_pack (neg : Bool) (m : Nat) (e : Int) (h0 : 0 < m) (h1 : m < 18446744073709551616) (he : -30000 ≤ e ∧ e ≤ 30000) : ∃ r, Ev (fun k => five_pack.f k neg (m : Int) e false) r ∧ Ev (fun k => bakeref2_nearest.f k neg (dig m) [1] e) r := by
  obtain ⟨L, l1, l2, p0, p1, hp⟩ := pack_ev neg false m e h0 h1 (by omega)
  refine ⟨_, hp, ?_⟩
  rw [← dig_one]
  by_cases a : L ≤ 32
  · rw [if_pos a]
    have hm0 : 2147483648 ≤ m * 2 ^ (32 - L) := by
      have := Nat.mul_le_mul_right (2 ^ (32 - L)) p0
      rw [← Nat.pow_add, show L - 1 + (32 - L) = 31 by omega] at this
      exact this
    have hm1 : m * 2 ^ (32 - L) < 4294967296 := by
      have := Nat.mul_lt_mul_of_pos_right p1 (Nat.pow_pos (a := 2) (n := 32 - L) (by decide))
      rw [← Nat.pow_add, show L + (32 - L) = 32 by omega] at this
      exact this
    have h := nearest_ev neg m 1 (32 - L) 0 (m * 2 ^ (32 - L)) 0 e h0 (by decide) (.inr rfl) (by simp) (by simp) hm0 hm1 (sm_pow (by decide)) (by omega) (by omega)
    have hu : upB (2 * 0) (1 * 2 ^ 0) (m * 2 ^ (32 - L)) = false := by simp [upB]
    rw [hu, show e - ((32 - L : Nat) : Int) + ((0 : Nat) : Int) = e + ((L : Int) - 32) by omega] at h
    exact h
  · rw [if_neg a]
    have hq0 : 2147483648 ≤ m / 2 ^ (L - 32) := by
      rw [Nat.le_div_iff_mul_le (Nat.pow_pos (by decide)), show (2147483648 : Nat) = 2 ^ 31 from rfl, ← Nat.pow_add, show 31 + (L - 32) = L - 1 by omega]
      exact p0
    have hq1 : m / 2 ^ (L - 32) < 4294967296 := by
      rw [Nat.div_lt_iff_lt_mul (Nat.pow_pos (by decide)), show (4294967296 : Nat) = 2 ^ 32 from rfl, ← Nat.pow_add, show 32 + (L - 32) = L by omega]
      exact p1
    have hP : 2 ^ (L - 32) = 2 * 2 ^ (L - 33) := by rw [show L - 32 = (L - 33) + 1 by omega, Nat.pow_succ, Nat.mul_comm]
    have hPle : 2 ^ (L - 32) ≤ 2 ^ 32 := Nat.pow_le_pow_right (by decide) (by omega)
    have h := nearest_ev neg m 1 0 (L - 32) (m / 2 ^ (L - 32)) (m % 2 ^ (L - 32)) e h0 (by decide) (.inl rfl) (by rw [Nat.pow_zero, Nat.mul_one, Nat.one_mul, Nat.mul_comm]; exact (Nat.div_add_mod _ _).symm) (by rw [Nat.one_mul]; exact Nat.mod_lt _ (Nat.pow_pos (by decide))) hq0 hq1 (sm_pow (by rw [Nat.one_mul]; exact Nat.lt_of_le_of_lt (Nat.mul_le_mul_right _ hPle) (by decide))) (by omega) (by omega)
    rw [Nat.one_mul, show e - ((0 : Nat) : Int) + ((L - 32 : Nat) : Int) = e + ((L : Int) - 32) by omega] at h
    have hu : upB (2 * (m % 2 ^ (L - 32))) (2 ^ (L - 32)) (m / 2 ^ (L - 32)) = upP (m % 2 ^ (L - 32)) (2 ^ (L - 33)) (m / 2 ^ (L - 32)) false := by
      generalize m / 2 ^ (L - 32) = q
      generalize m % 2 ^ (L - 32) = r
      rw [hP]
      generalize 2 ^ (L - 33) = z
      unfold upB upP
      by_cases c1 : z < r
      · rw [if_pos c1, if_pos (by omega)]
      · rw [if_neg c1, if_neg (by omega)]
        by_cases c2 : r = z
        · rw [if_pos c2, if_neg (by omega), if_neg (by decide)]
        · rw [if_neg c2, if_pos (by omega)]
    rw [hu] at h
    exact h
def By (x : Int) : Prop := 0 ≤ x ∧ x < 256
theorem u8zero {x : Int} (h : By x) : UInt8.ofNat x.toNat = 0 ↔ x = 0 := by
  unfold By at h
  constructor
  · intro e
    have := congrArg UInt8.toNat e
    rw [UInt8.toNat_ofNat'] at this
    simp at this
    omega
  · intro e; subst e; rfl
def chk (a0 a1 a2 a3 a4 : Int) : Int := if a0 = 0 ∧ ¬ (a1 = 0 ∧ a2 = 0 ∧ a3 = 0 ∧ a4 = 0) then 3 else 0
theorem check_ev (a0 a1 a2 a3 a4 : Int) : five_Check.f a0 a1 a2 a3 a4 = some (chk a0 a1 a2 a3 a4) := by
  unfold five_Check.f chk
  by_cases h0 : a0 = 0
  · have hb : (!(a0 == 0) || (!(a1 == 0) || (!(a2 == 0) || (!(a3 == 0) || (!(a4 == 0)))))) = true ↔ ¬ (a1 = 0 ∧ a2 = 0 ∧ a3 = 0 ∧ a4 = 0) := by
      by_cases h1 : a1 = 0 <;> by_cases h2 : a2 = 0 <;> by_cases h3 : a3 = 0 <;> by_cases h4 : a4 = 0 <;> simp [h0, h1, h2, h3, h4]
    rw [if_pos h0]
    by_cases h : a1 = 0 ∧ a2 = 0 ∧ a3 = 0 ∧ a4 = 0
    · rw [if_neg (fun z => (hb.1 z) h), if_neg (fun z => z.2 h)]
    · rw [if_pos (hb.2 h), if_pos ⟨h0, h⟩]
  · rw [if_neg h0, if_neg (fun h => h0 h.1)]
theorem err_ev (a0 a1 a2 a3 a4 : Int) (b1 : By a1) (b2 : By a2) (b3 : By a3) (b4 : By a4) : bakeref2_FiveErr.f a0 a1 a2 a3 a4 = some (chk a0 a1 a2 a3 a4) := by
  unfold bakeref2_FiveErr.f chk
  by_cases h0 : a0 = 0
  · subst h0
    rw [if_pos rfl, ByteArray.toList_eq, strOfNums_data]
    have e : (([0, a1, a2, a3, a4] : List Int).map fun n => UInt8.ofNat n.toNat) = ([0, 0, 0, 0, 0] : List UInt8) ↔ (a1 = 0 ∧ a2 = 0 ∧ a3 = 0 ∧ a4 = 0) := by
      simp only [List.map_cons, List.map_nil, List.cons.injEq, and_true, u8zero b1, u8zero b2, u8zero b3, u8zero b4]
      constructor
      · rintro ⟨_, h⟩; exact h
      · intro h; exact ⟨rfl, h⟩
    by_cases h : a1 = 0 ∧ a2 = 0 ∧ a3 = 0 ∧ a4 = 0
    · rw [if_pos (e.2 h), if_neg (fun z => z.2 h)]
    · rw [if_neg (fun z => h (e.1 z)), if_pos ⟨rfl, h⟩]
  · rw [if_neg h0, if_neg (fun h => h0 h.1)]
def vv (a1 a2 a3 a4 : Int) : Nat := (a1 * 16777216 + a2 * 65536 + a3 * 256 + a4).toNat
theorem vv_cast {a1 a2 a3 a4 : Int} (b1 : By a1) (b2 : By a2) (b3 : By a3) (b4 : By a4) : ((vv a1 a2 a3 a4 : Nat) : Int) = a1 * 16777216 + a2 * 65536 + a3 * 256 + a4 ∧ vv a1 a2 a3 a4 < 4294967296 := by
  unfold By at *
  unfold vv
  omega
def mant (v : Nat) : Nat := if 2147483648 ≤ v then v else v + 2147483648
theorem mant_b {v : Nat} (h : v < 4294967296) : 2147483648 ≤ mant v ∧ mant v < 4294967296 := by unfold mant; split <;> omega
theorem parts_num (a1 a2 a3 a4 : Int) (b1 : 0 ≤ a1 ∧ a1 < 256) (b2 : 0 ≤ a2 ∧ a2 < 256) (b3 : 0 ≤ a3 ∧ a3 < 256) (b4 : 0 ≤ a4 ∧ a4 < 256) : Go.bits .or .u64 (Go.bits .or .u64 (Go.bits .or .u64 (IntKind.u64.wrap ((IntKind.u64.wrap a1) * 16777216)) (IntKind.u64.wrap ((IntKind.u64.wrap a2) * 65536))) (IntKind.u64.wrap ((IntKind.u64.wrap a3) * 256))) (IntKind.u64.wrap a4) = a1 * 16777216 + a2 * 65536 + a3 * 256 + a4 := by
  have w1 : IntKind.u64.wrap ((IntKind.u64.wrap a1) * 16777216) = a1 * 16777216 := by rw [wu64 a1 (by omega) (by omega), wu64 _ (by omega) (by omega)]
  have w2 : IntKind.u64.wrap ((IntKind.u64.wrap a2) * 65536) = a2 * 65536 := by rw [wu64 a2 (by omega) (by omega), wu64 _ (by omega) (by omega)]
  have w3 : IntKind.u64.wrap ((IntKind.u64.wrap a3) * 256) = a3 * 256 := by rw [wu64 a3 (by omega) (by omega), wu64 _ (by omega) (by omega)]
  have w4 : IntKind.u64.wrap a4 = a4 := wu64 a4 (by omega) (by omega)
  rw [w1, w2, w3, w4]
  clear w1 w2 w3 w4
  have o1 : Go.bits .or .u64 (a1 * 16777216) (a2 * 65536) = a1 * 16777216 + a2 * 65536 := bits_join .u64 64 (by decide) wraps_u64 24 _ _ (by omega) (by omega) (by omega) (by omega) (by omega) (by omega)
  have o2 : Go.bits .or .u64 (a1 * 16777216 + a2 * 65536) (a3 * 256) = a1 * 16777216 + a2 * 65536 + a3 * 256 := bits_join .u64 64 (by decide) wraps_u64 16 _ _ (by omega) (by omega) (by omega) (by omega) (by omega) (by omega)
  have o3 : Go.bits .or .u64 (a1 * 16777216 + a2 * 65536 + a3 * 256) a4 = a1 * 16777216 + a2 * 65536 + a3 * 256 + a4 := bits_join .u64 64 (by decide) wraps_u64 8 _ _ (by omega) (by omega) (by omega) (by omega) (by omega) (by omega)
  rw [o1, o2, o3]
theorem parts_ev (a0 a1 a2 a3 a4 : Int) (b0 : By a0) (b1 : By a1) (b2 : By a2) (b3 : By a3) (b4 : By a4) : five_parts.f a0 a1 a2 a3 a4 = some (if a0 = 0 then (false, 0, 0) else (decide (2147483648 ≤ vv a1 a2 a3 a4), ((mant (vv a1 a2 a3 a4) : Nat) : Int), a0 - 160)) := by
  obtain ⟨hv, hv2⟩ := vv_cast b1 b2 b3 b4
  unfold five_parts.f
  by_cases h0 : a0 = 0
  · rw [if_pos h0, if_pos h0]
  · rw [if_neg h0, if_neg h0]
    have e := parts_num a1 a2 a3 a4 b1 b2 b3 b4
    rw [← hv] at e
    unfold By at b0
    have e6 : wrap64 (wrap64 a0 - 160) = a0 - 160 := by rw [w64 a0 (by omega) (by omega), w64 _ (by omega) (by omega)]
    rw [e, or31 _ hv2, e6]
    clear e hv
    generalize vv a1 a2 a3 a4 = v at hv2 ⊢
    unfold mant
    have hb : ((v : Int) / 2147483648 == 1) = decide (2147483648 ≤ v) := by rw [Bool.eq_iff_iff, beq_iff_eq, decide_eq_true_iff]; omega
    rw [hb]
    by_cases c : 2147483648 ≤ v
    · simp only [c, if_true]
    · simp only [c, if_false]; rfl
theorem split_num (a0 a1 a2 a3 a4 : Int) (b0 : 0 ≤ a0 ∧ a0 < 256) (b1 : 0 ≤ a1 ∧ a1 < 256) (b2 : 0 ≤ a2 ∧ a2 < 256) (b3 : 0 ≤ a3 ∧ a3 < 256) (b4 : 0 ≤ a4 ∧ a4 < 256) : wrap64 (wrap64 a1) = a1 ∧ wrap64 ((wrap64 (256 * a1)) + (wrap64 a2)) = a1 * 256 + a2 ∧ wrap64 ((wrap64 (256 * (a1 * 256 + a2))) + (wrap64 a3)) = a1 * 65536 + a2 * 256 + a3 ∧
    wrap64 ((wrap64 (256 * (a1 * 65536 + a2 * 256 + a3))) + (wrap64 a4)) = a1 * 16777216 + a2 * 65536 + a3 * 256 + a4 ∧ wrap64 ((wrap64 a0) - 160) = a0 - 160 := by
  rw [w64 a0 (by omega) (by omega), w64 a1 (by omega) (by omega), w64 a2 (by omega) (by omega), w64 a3 (by omega) (by omega), w64 a4 (by omega) (by omega), w64 a1 (by omega) (by omega), w64 (256 * a1) (by omega) (by omega), w64 (256 * (a1 * 256 + a2)) (by omega) (by omega), w64 (256 * (a1 * 65536 + a2 * 256 + a3)) (by omega) (by omega), w64 (a0 - 160) (by omega) (by omega), w64 (256 * a1 + a2) (by omega) (by omega), w64 (256 * (a1 * 256 + a2) + a3) (by omega) (by omega), w64 (256 * (a1 * 65536 + a2 * 256 + a3) + a4) (by omega) (by omega)]
  omega
theorem split_ev (a0 a1 a2 a3 a4 : Int) (b0 : By a0) (b1 : By a1) (b2 : By a2) (b3 : By a3) (b4 : By a4) : Ev (fun k => bakeref2_split.f k a0 a1 a2 a3 a4) (decide (2147483648 ≤ vv a1 a2 a3 a4), dig (mant (vv a1 a2 a3 a4)), a0 - 160) := by
  obtain ⟨hv, hv2⟩ := vv_cast b1 b2 b3 b4
  unfold By at *
  unfold bakeref2_split.f
  obtain ⟨e1, e2, e3, e4, e5⟩ := split_num a0 a1 a2 a3 a4 b0 b1 b2 b3 b4
  rw [← hv] at e4
  rw [e1, e2, e3, e4, e5]
  generalize vv a1 a2 a3 a4 = v at hv2 ⊢
  have hd : decide ((v : Int) ≥ 2147483648) = decide (2147483648 ≤ v) := decide_eq_decide.2 (by omega)
  rw [hd]
  unfold mant
  by_cases c : 2147483648 ≤ v
  · rw [if_pos c]
    refine Ev.pos (by omega) ?_
    rw [wu64 (v : Int) (by omega) (by omega)]
    exact Ev.bind (natOf_ev v (by omega)) (Ev.all fun k => rfl)
  · rw [if_neg c]
    refine Ev.neg (by omega) ?_
    have hw : IntKind.u64.wrap (wrap64 ((v : Int) + 2147483648)) = ((v + 2147483648 : Nat) : Int) := by rw [w64 _ (by omega) (by omega), wu64 _ (by omega) (by omega)]; omega
    rw [hw]
    clear hw hv hd
    obtain ⟨z, hz⟩ : ∃ z : Nat, v + 2147483648 = z := ⟨_, rfl⟩
    rw [hz]
    exact Ev.bind (natOf_ev z (by omega)) (Ev.all fun k => rfl)
structure B5 (a0 a1 a2 a3 a4 : Int) : Prop where
  b0 : By a0
  b1 : By a1
  b2 : By a2
  b3 : By a3
  b4 : By a4
theorem both_ev (a0 a1 a2 a3 a4 c0 c1 c2 c3 c4 : Int) : five_both.f a0 a1 a2 a3 a4 c0 c1 c2 c3 c4 = some (if chk a0 a1 a2 a3 a4 = 0 then chk c0 c1 c2 c3 c4 else chk a0 a1 a2 a3 a4) := by
  unfold five_both.f
  rw [check_ev, check_ev]
  show (if chk a0 a1 a2 a3 a4 = 0 then _ else _) = _
  split <;> rfl
end Go.Proofs.Ytmedmifkeliepaa.BkFiveMuls
