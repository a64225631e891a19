/-
  Plain models of chapter 23: pulses of bits, places, and bytes of bits. No program in sight.
-/
import Derived.Test.YtmedmifkeliepaaZFlux3
import Derived.Test.YtmedmifkeliepaaZBurst
set_option linter.unusedVariables false
set_option linter.unusedSimpArgs false
namespace Go.Proofs.Ytmedmifkeliepaa.Bk
open Go Go.RowKit Go.Proofs.YtmedmifkeliepaaW.PrintWords Go.Proofs.YtmedmifkeliepaaW.PrintLast Go.Proofs.YtmedmifkeliepaaW.PrintMore
def pr (b : Bool) : List Int := if b then [1, 1] else [2]
def pls (B : List Bool) : List Int := 1 :: B.flatMap pr
theorem pr_ok (B : List Bool) : (B.flatMap pr).all okN = true := by
  rw [List.all_eq_true]
  intro x hx
  obtain ⟨b, _, hb⟩ := List.mem_flatMap.1 hx
  cases b <;> simp [pr] at hb <;> subst hb <;> rfl
theorem pr_length (B : List Bool) : (B.flatMap pr).length ≤ 2 * B.length := by
  induction B with
  | nil => simp
  | cons b B ih =>
    rw [List.flatMap_cons, List.length_append, List.length_cons]
    have : (pr b).length ≤ 2 := by cases b <;> decide
    omega
theorem bits8_one (c : Int) (k : Nat) (hc : 0 ≤ c ∧ c < 256) (hk : k < 8) : (bits .and .u8 (shr .u8 c (k : Int)) 1 = 1) ↔ bt7 c (7 - k) = true := by
  obtain ⟨m, rfl⟩ := Int.eq_ofNat_of_zero_le hc.1
  have e : shr .u8 (m : Int) (k : Int) = ((m / 2 ^ k : Nat) : Int) := by
    unfold shr; rw [Int.toNat_natCast, Nat.min_eq_left (by simp only [IntKind.bits]; omega)]; simp
  have hq : m / 2 ^ k < 256 := Nat.lt_of_le_of_lt (Nat.div_le_self _ _) (by omega)
  rw [e, show (1 : Int) = ((1 : Nat) : Int) from rfl, and8 _ _ hq (by omega), Nat.and_one_is_mod]
  unfold bt7
  rw [show 7 - (7 - k) = k by omega, Int.toNat_natCast, decide_eq_true_eq]
  omega
/-- distances between places -/
def dist : Int → List Bool → List Int
  | _, [] => []
  | g, true :: l => g :: dist 1 l
  | g, false :: l => dist (g + 1) l
def pairs (B : List Bool) : List Bool := B.flatMap fun b => [b, true]
theorem dist_pairs : ∀ B : List Bool, dist 1 (pairs B) = B.flatMap pr
  | [] => rfl
  | true :: B => by have := dist_pairs B; simp only [pairs, List.flatMap_cons] at this ⊢; simp [dist, pr, this]
  | false :: B => by have := dist_pairs B; simp only [pairs, List.flatMap_cons] at this ⊢; simp [dist, pr, this]
theorem pairs_length (B : List Bool) : (pairs B).length = 2 * B.length := by
  induction B with
  | nil => rfl
  | cons b B ih =>
    have e : pairs (b :: B) = [b, true] ++ pairs B := rfl
    rw [e, List.length_append, ih]
    simp only [List.length_cons, List.length_nil]; omega
theorem dist_length : ∀ (l : List Bool) (g : Int), (dist g l).length ≤ l.length
  | [], _ => by simp [dist]
  | true :: l, g => by have := dist_length l 1; simp [dist]; omega
  | false :: l, g => by have := dist_length l (g + 1); simp [dist]; omega
def placedOf (l : List Bool) (c : Int) : List Int × Int := if 2 ≤ c ∧ c ≤ 1000 then (if 40000 < (dist 1 l).length then ([], 2) else ((dist 1 l).map (· * c), 0)) else ([], 1)
def fmOf (b : List Int) (c : Int) : List Int × Int := if 2000 < b.length then ([], 2) else pulsesOf (pls (bitsL b)) c
theorem fm_same (b : List Int) (c : Int) (h : b.length ≤ 2000) : placedOf (true :: pairs (bitsL b)) c = pulsesOf (pls (bitsL b)) c := by
  have e : dist 1 (true :: pairs (bitsL b)) = pls (bitsL b) := by simp [dist, pls, dist_pairs]
  have hl : (pls (bitsL b)).length ≤ 40000 := by
    have := pr_length (bitsL b)
    rw [bitsL_length] at this
    simp only [pls, List.length_cons]; omega
  have hok : (pls (bitsL b)).all okN = true := by simp only [pls, List.all_cons, pr_ok]; rfl
  unfold placedOf pulsesOf
  rw [e, pulL_all, if_pos hok]
  simp only [if_neg (show ¬ 40000 < (pls (bitsL b)).length by omega), List.nil_append]
/-- reading: bits of numbers of cells -/
def rdB : List Int → Option (List Bool)
  | [] => some []
  | x :: r => if x = 1 then (match r with
    | [] => none
    | y :: r' => if y = 1 then (rdB r').map (true :: ·) else none) else (rdB r).map (false :: ·)
def unp (x : Int) : List Bool := if x = 1 then [true] else [false, true]
/-- bytes of bits, by eights -/
def pkA : List Int → Int → Nat → List Bool → List Int × Int × Nat
  | out, c, n, [] => (out, c, n)
  | out, c, n, b :: B => let c' := 2 * c + (if b then 1 else 0); if n + 1 = 8 then pkA (out ++ [c']) 0 0 B else pkA out c' (n + 1) B
theorem pkA_count : ∀ (B : List Bool) (out : List Int) (c : Int) (n : Nat), n < 8 → (pkA out c n B).2.2 = (n + B.length) % 8 ∧ (pkA out c n B).1.length = out.length + (n + B.length) / 8
  | [], out, c, n, h => by simp [pkA]; omega
  | b :: B, out, c, n, h => by
    unfold pkA
    by_cases h8 : n + 1 = 8
    · simp only [h8, if_true]
      have := pkA_count B (out ++ [2 * c + (if b then 1 else 0)]) 0 0 (by omega)
      simp only [List.length_append, List.length_cons, List.length_nil] at this ⊢
      omega
    · simp only [h8, if_false]
      have := pkA_count B out (2 * c + (if b then 1 else 0)) (n + 1) (by omega)
      simp only [List.length_cons] at this ⊢
      omega
def bytesL (B : List Bool) : List Int := (pkA [] 0 0 B).1
def finL (B : List Bool) : List Int × Int := if B.length % 8 = 0 then (if 16000 < B.length then ([], 2) else (bytesL B, 0)) else ([], 13)
def fmRead (n : List Int) : List Int × Int := match n with
  | [] => ([], 3)
  | x :: r => if x = 1 then (match rdB r with
    | none => ([], 3)
    | some B => finL B) else ([], 3)
def fmBytesOf (t : List Int) (c : Int) : List Int × Int := if (cellsOf t c 2).2 = 0 then fmRead (cellsOf t c 2).1 else ([], (cellsOf t c 2).2)
theorem cellsL_vals (c m : Int) : ∀ (s out : List Int), (cellsL c m out s).2 = 0 → (∀ x ∈ out, 1 ≤ x ∧ x ≤ m) → ∀ x ∈ (cellsL c m out s).1, 1 ≤ x ∧ x ≤ m
  | [], out, _, h, x, hx => h x (by simpa [cellsL] using hx)
  | y :: s, out, h0, h, x, hx => by
    unfold cellsL at h0 hx
    split at hx
    · simp at hx
    · rename_i hn
      rw [if_neg hn] at h0
      exact cellsL_vals c m s (out ++ [cellN c y]) h0 (fun z hz => by
        rcases List.mem_append.1 hz with hz | hz
        · exact h z hz
        · simp only [List.mem_singleton] at hz; subst hz; omega) x hx
theorem cellsOf_vals (t : List Int) (c m : Int) (h : (cellsOf t c m).2 = 0) : ∀ x ∈ (cellsOf t c m).1, 1 ≤ x ∧ x ≤ m := by
  intro x hx
  unfold cellsOf at h hx
  split at hx
  · split at hx
    · rename_i h1 h2
      rw [if_pos h1, if_pos h2] at h
      exact cellsL_vals c m t [] h (by simp) x hx
    · simp at hx
  · simp at hx
theorem rdB_length : ∀ (n : List Int) (B : List Bool), rdB n = some B → B.length ≤ n.length
  | [], B, h => by simp [rdB] at h; subst h; simp
  | x :: r, B, h => by
    unfold rdB at h
    by_cases hx : x = 1
    · rw [if_pos hx] at h
      match r, h with
      | y :: r', h =>
        simp only at h
        by_cases hy : y = 1
        · rw [if_pos hy] at h
          obtain ⟨B', hB, rfl⟩ := Option.map_eq_some_iff.1 h
          have := rdB_length r' B' hB
          simp; omega
        · rw [if_neg hy] at h; cases h
    · rw [if_neg hx] at h
      obtain ⟨B', hB, rfl⟩ := Option.map_eq_some_iff.1 h
      have := rdB_length r B' hB
      simp; omega
end Go.Proofs.Ytmedmifkeliepaa.Bk
